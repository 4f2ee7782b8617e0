import Derived.WalkKit
import Derived.Deep.LoopGhost
import Derived.Deep.AppendSrc
import Derived.Deep.MidRow
import Derived.Lib.FrozenHead2
import Derived.Laws.BytesString
set_option linter.unusedVariables false
set_option linter.unusedSimpArgs false
namespace Go.Sy
inductive Ty where
 | int (k:IntKind) | bool | str | st (t:Nat) | sl (e:Ty) | pt
 deriving DecidableEq,Inhabited
def Ty.den (C:Nat→Type):Ty→Type
 | .int _=>Int
 | .bool=>Bool
 | .str=>List UInt8
 | .st t=>C t
 | .sl e=>List (e.den C)
 | .pt=>Unit   -- a pointer in a struct
def ag (C:Nat→Type):List Ty→Type
 | []=>Unit
 | [t]=>t.den C
 | t::u::ts=>t.den C×ag C (u::ts)
def ag.cons {C:Nat→Type} {t:Ty} : {ts:List Ty} →t.den C→ag C ts→ag C (t::ts)
 | [],x,_=>x
 | _::_,x,r=>(x,r)
def ag.head {C:Nat→Type} {t:Ty} : {ts:List Ty} →ag C (t::ts)→t.den C
 | [],x=>x
 | _::_,x=>x.1
def ag.tail {C:Nat→Type} {t:Ty} : {ts:List Ty} →ag C (t::ts)→ag C ts
 | [],_=>()
 | _::_,x=>x.2
inductive CK where
 | data (t:Ty)
 | aP (e:Ty)      -- a slice whose room behind its end is its holder's alone
 | az (e:Ty)      -- a slice whose array is its holder's alone
 | aF (u:Nat)      -- a slice of structs, whose array and whose elements' own parts are its holder's alone
 deriving DecidableEq,Inhabited
structure aK where
 C:Nat→Type
 F:Nat→List Ty
 ex:(t:Nat)→C t→ag C (F t)
 im:(t:Nat)→ag C (F t)→C t
 eO:Nat→Nat→Option (Nat×Ty)
 z:(t:Nat)→C t
 ty:Nat→Option Ty
 pt:Nat→Bool
 ar:Nat→Option (Nat×Ty)
 eq:Nat→Bool
 ou:Nat→Bool
 gl:List ((Nat×Nat)×(Value→Prop))
 gb:List (Nat×(Obj→Prop))
 bt:Option (Nat×Nat)
 sp:Nat→Bool
 own:Nat→List CK
inductive K where
 | val (c:CK)
 | obj (cs:List CK)
 | opt (cs:List CK)
 | nil
 | ro (t:Ty)
 | fn (a r:List Ty)
 | cj (cs:List CK)  -- a slice whose array is cells of its holder's own
 | err                 -- an error: is it nil?
 | aQ                 -- a builder of a text
 | bO (t:Ty) (cs:List CK)  -- an object whose first cell points to an object of its own
 | agg (u:Nat) (cs:List CK)  -- a struct by value, with own parts
 deriving DecidableEq,Inhabited
def CK.den (C:Nat→Type):CK→Type
 | .data t=>t.den C
 | .aP e=>List (e.den C)
 | .az e=>List (e.den C)
 | .aF u=>List (C u)
def aJ (C:Nat→Type):List CK→Type
 | []=>Unit
 | [t]=>t.den C
 | t::u::ts=>t.den C×aJ C (u::ts)
def K.den (C:Nat→Type):K→Type
 | .val c=>c.den C
 | .obj cs=>aJ C cs
 | .opt cs=>Option (aJ C cs)
 | .nil=>Unit
 | .ro t=>t.den C
 | .fn a r=>ag C a→Option (ag C r)
 | .cj cs=>aJ C cs
 | .err=>Bool
 | .aQ=>List UInt8
 | .bO t cs=>t.den C×aJ C cs
 | .agg _ cs=>aJ C cs
def Ks (C:Nat→Type):List K→Type
 | []=>Unit
 | [t]=>t.den C
 | t::u::ts=>t.den C×Ks C (u::ts)
def aJ.cons {C:Nat→Type} {t:CK} : {ts:List CK} →t.den C→aJ C ts→aJ C (t::ts)
 | [],x,_=>x
 | _::_,x,r=>(x,r)
def aJ.head {C:Nat→Type} {t:CK} : {ts:List CK} →aJ C (t::ts)→t.den C
 | [],x=>x
 | _::_,x=>x.1
def aJ.tail {C:Nat→Type} {t:CK} : {ts:List CK} →aJ C (t::ts)→aJ C ts
 | [],_=>()
 | _::_,x=>x.2
def Ks.cons {C:Nat→Type} {t:K} : {ts:List K} →t.den C→Ks C ts→Ks C (t::ts)
 | [],x,_=>x
 | _::_,x,r=>(x,r)
def Ks.head {C:Nat→Type} {t:K} : {ts:List K} →Ks C (t::ts)→t.den C
 | [],x=>x
 | _::_,x=>x.1
def Ks.tail {C:Nat→Type} {t:K} : {ts:List K} →Ks C (t::ts)→Ks C ts
 | [],_=>()
 | _::_,x=>x.2
inductive V (C:Nat→Type) where
 | undef
 | skip
 | d (t:Ty) (x:t.den C)
 | pr (p:Prop) (i:Decidable p)
 | aP (b:Nat) (e:Ty) (l:List (e.den C))
 | az (b:Nat)
 | pre (b:Nat) (n:Int)
 | win (b:Nat) (i n:Int)
 | ptr (b off:Nat)
 | cj (b n:Nat)
 | split (b c:Nat)
 | i_ (c:Nat)
 | err (b:Bool)
 | cG (b:Nat) (i:Int) (off:Nat)
 | cH (t:Ty) (x:t.den C)
 | nil
 | b8
 | fv (a r:List Ty) (g:ag C a→Option (ag C r))
 | fe (f:Nat) (caps:List (V C))
 | agg (t:Nat) (vs:List (V C))
 | gG (vs:List (V C))
inductive b7 (C:Nat→Type) where
 | cells (vs:List (V C))
 | bH (vs:List (V C))
 | arr (e:Ty) (l:List (e.den C))
 | bn (e:Ty) (l:List (e.den C))
 | aF (u:Nat) (l:List (C u)) (h:Option Int)   -- structs with own parts; 'h': the one that is away
 | tail
 | dead
 | aQ (j:Nat)           -- a builder; its bytes are in 'j'
 | buf (l:List UInt8)    -- a builder's bytes
structure Env (C:Nat→Type) where
 tm:Nat→V C
 bx:Nat→Option (b7 C)
 df:Bool   -- has the function's deferred call been laid down?
def ai {α:Type} (f:Nat→α) (k:Nat) (v:α):Nat→α:=fun i=>cond (Nat.beq i k) v (f i)
abbrev aA (C:Nat→Type):=List (Nat×b7 C)
abbrev Bx (C:Nat→Type):=Nat→Option (b7 C)
def ah {C:Nat→Type} (bx:Bx C):aA C→Bx C
 | []=>bx
 | u::us=>ah (ai bx u.1 (some u.2)) us
def qK {C:Nat→Type} (tm:Nat→V C) (dst:Option Nat) (v:V C):Nat→V C:=match dst with
 | some d=>ai tm d v
 | none=>tm
def Env.apply {C:Nat→Type} (e:Env C) (dst:Option Nat) (v:V C) (us:aA C):Env C:=
 { tm:=qK e.tm dst v,bx:=ah e.bx us,df:=e.df }
structure Gd where
 p:Prop
 i:Decidable p
def gd (p:Prop) [i:Decidable p]:Gd:=⟨p,i⟩
inductive Tr (X:Type):Type 1 where
 | fail
 | ret (x:X)
 | ite (p:Prop) (i:Decidable p) (a b:Tr X)
 | bind (α:Type) (m:Option α) (k:α→Tr X)
 | opt (α:Type) (m:Option α) (n:Tr X) (s:α→Tr X)
def Tr.run {X:Type} {R:Type} :Tr X→(X→Option R)→Option R
 | .fail,_=>none
 | .ret x,k=>k x
 | .ite _ i a b,k=> @_root_.ite _ _ i (a.run k) (b.run k)
 | .bind _ m f,k=>m.bind fun x=>(f x).run k
 | .opt _ m n s,k=>match m with
  | none=>n.run k
  | some x=>(s x).run k
def Tr.gd {X:Type} :List Gd→Tr X→Tr X
 | [],r=>r
 | g::gs,r=> .ite g.p g.i (Tr.gd gs r) .fail
section
variable (S:aK)
def dj (t u:Ty) (x:t.den S.C):Option (u.den S.C):=if h:t=u then some (h▸x) else none
def Ty.zero:(t:Ty)→t.den S.C
 | .int _=>(0:Int)
 | .bool=>false
 | .str=>([]:List UInt8)
 | .sl _=> []
 | .st u=>S.z u
 | .pt=>()
def Ty.sz:Ty→Nat
 | .st u=>(S.F u).length
 | _=>1
def cF (bx:Bx S.C) (t:Ty) (v:V S.C):Option (t.den S.C):=
 match v with
 | .d u x=>dj S u t x
 | .pr p i=>dj S .bool t (@decide p i)
 | .aP _ e l=>dj S (.sl e) t l
 | .b8=>match t with
  | .sl _=>some []
  | _=>none
 | .az b=>match bx b with
  | some (.arr e l) | some (.bn e l)=>dj S (.sl e) t l
  | some (.aF u l none)=>dj S (.sl (.st u)) t l
  | _=>none
 | _=>none
def nA:(ts:List Ty)→ag S.C ts→List (V S.C)
 | [],_=> []
 | t::ts,x=> .d t (ag.head x)::nA ts (ag.tail x)
def iG:(t:Ty)→t.den S.C→List (V S.C)
 | .st u,x=>nA S (S.F u) (S.ex u x)
 | t,x=> [.d t x]
def gH (bx:Bx S.C):(ts:List Ty)→List (V S.C)→Option (ag S.C ts)
 | [],_=>some ()
 | t::ts,v::vs=>(cF S bx t v).bind fun x=>(gH bx ts vs).bind fun y=>some (ag.cons x y)
 | _::_,[]=>none
def gQ (bx:Bx S.C) (t:Ty) (vs:List (V S.C)):Option (t.den S.C):=
 match t with
 | .st u=>(gH S bx (S.F u) vs).bind fun x=>some (S.im u x)
 | t=>match vs with
  | v::_=>cF S bx t v
  | []=>none
def zeroCell:Ty→V S.C
 | .sl _=> .b8
 | .pt=> .nil
 | t=> .d t (Ty.zero S t)
def fU:CK→Ty
 | .data t=>t
 | .aP e=> .sl e
 | .az e=> .sl e
 | .aF u=> .sl (.st u)
def pO {C:Nat→Type} :(c:CK)→(fU c).den C→c.den C
 | .data _,x=>x
 | .aP _,x=>x
 | .az _,x=>x
 | .aF _,x=>x
def lO {C:Nat→Type} :(c:CK)→c.den C→(fU c).den C
 | .data _,x=>x
 | .aP _,x=>x
 | .az _,x=>x
 | .aF _,x=>x
def oZ {C:Nat→Type} :(cs:List CK)→ag C (cs.map fU)→aJ C cs
 | [],_=>()
 | c::cs,x=>aJ.cons (pO c (ag.head x)) (oZ cs (ag.tail x))
def jN {C:Nat→Type} :(cs:List CK)→aJ C cs→ag C (cs.map fU)
 | [],_=>()
 | c::cs,x=>ag.cons (lO c (aJ.head x)) (jN cs (aJ.tail x))
def partsOf (u:Nat) (x:S.C u):Option (aJ S.C (S.own u)):=if h:S.F u=(S.own u).map fU then some (oZ (S.own u) (h▸S.ex u x)) else none
def Be (u:Nat) (y:aJ S.C (S.own u)):Option (S.C u):=if h:(S.own u).map fU=S.F u then some (S.im u (h▸jN (S.own u) y)) else none
def zeroCells:Ty→List (V S.C)
 | .st u=>(S.F u).map (zeroCell S)
 | t=> [zeroCell S t]
end
end Go.Sy
namespace Go.Sy
section
variable (S:aK)
def outs:List K→List K
 | []=> []
 | .obj cs::r=> .obj cs::outs r
 | .aQ::r=> .aQ::outs r
 | .bO t cs::r=> .bO t cs::outs r
 | _::r=>outs r
structure Entry where
 f:Nat
 ps:List K
 rs:List K
 sp:Ks S.C ps→Option (Ks S.C (rs++outs ps))
structure gu where
 f:Nat
 a:List Ty
 c:List Ty
 r:List Ty
 sp:ag S.C a→ag S.C c→Option (ag S.C r)
structure gy where
 es:List (Entry S)
 fs:List (gu S)
 nl:Bool
 vw:Bool
 ow:Bool   -- are slices of structs that have own parts its own?
 dc:Option (Nat×List Operand)   -- the call that it defers
 de:List (Entry S)                -- callees that may be deferred
def uN:Ty→Bool
 | .sl _=>false
 | .st u=>(S.F u).all fun | .sl _=>false | .st _=>false | _=>true
 | _=>true
def mO:CK→Bool
 | .data t=>uN S t
 | .aP _ | .aF _=>false
 | .az e=>uN S e
def nU:K→Bool
 | .val c=>mO S c
 | .obj cs | .opt cs=>cs.all (mO S)
 | .nil | .err | .aQ=>true
 | .ro _ | .fn _ _ | .bO _ _ | .agg _ _=>false
 | .cj cs=>cs.all (mO S)
def datum (bx:Bx S.C) (t:Ty) (v:V S.C):Option (t.den S.C):=
 match v with
 | .agg u vs=>match t with
  | .st w=>if u=w then gQ S bx (.st w) vs else none
  | _=>none
 | v=>match t with
  | .st w=>match v with
   | .d u x=>dj S u (.st w) x
   | _=>none
  | t=>cF S bx t v
def cn (bx:Bx S.C):V S.C→aA S.C
 | .az b=>match bx b with
  | some (.arr e l)=> [(b, .bn e l)]
  | some (.aF u l none)=> [(b, .bn (.st u) l)]
  | _=> []
 | _=> []
def cQ (bx:Bx S.C) (v:V S.C):aA S.C:=
 match v with
 | .agg _ vs=>vs.flatMap (cn S bx)
 | v=>cn S bx v
def cellsOf (v:V S.C):List (V S.C):=
 match v with
 | .d t x=>iG S t x
 | .agg _ vs=>vs
 | v=> [v]
def ak:V S.C→List Nat
 | .aP b _ _ | .az b | .ptr b _ | .cG b _ _ | .pre b _ | .win b _ _ | .cj b _ | .i_ b=> [b]
 | .split b c=> [b,c]
 | _=> []
def aq:V S.C→List Nat
 | .agg _ vs | .fe _ vs | .gG vs=>vs.flatMap (ak S)
 | v=>ak S v
def bu (id:Nat):(c:CK)→c.den S.C→List (V S.C)×aA S.C×Nat
 | .data t,x=>(iG S t x,[],id)
 | .aP e,x=>([.aP id e x],[(id, .tail)],id+1)
 | .az e,x=>([.az id],[(id, .arr e x)],id+1)
 | .aF u,x=>([.az id],[(id, .aF u x none)],id+1)
def aT (id:Nat):(cs:List CK)→aJ S.C cs→List (V S.C)×aA S.C×Nat
 | [],_=>([],[],id)
 | c::cs,x=>
  let a:=bu S id c (aJ.head x)
  let b:=aT a.2.2 cs (aJ.tail x)
  (a.1++b.1,a.2.1++b.2.1,b.2.2)
def CK.sz:CK→Nat
 | .data t=>Ty.sz S t
 | _=>1
def CK.bJ:List CK→Nat
 | []=>0
 | c::cs=>CK.sz S c+CK.bJ cs
def zu (id:Nat):(k:K)→k.den S.C→(V S.C×aA S.C×Nat→Tr (V S.C×aA S.C))→Tr (V S.C×aA S.C)
 | .val (.data t),x,κ=>κ (.d t x,[],id)
 | .val (.aP e),x,κ=>κ (.aP id e x,[(id, .tail)],id+1)
 | .val (.az e),x,κ=>κ (.az id,[(id, .arr e x)],id+1)
 | .val (.aF u),x,κ=>κ (.az id,[(id, .aF u x none)],id+1)
 | .agg u cs,x,κ=>let a:=aT S id cs x; κ (.agg u a.1,a.2.1,a.2.2)
 | .obj cs,x,κ=>let a:=aT S (id+1) cs x; κ (.ptr id 0,(id, .cells a.1)::a.2.1,a.2.2)
 | .opt cs,x,κ=> .opt _ x (κ (.nil,[],id)) fun y=>let a:=aT S (id+1) cs y; κ (.ptr id 0,(id, .cells a.1)::a.2.1,a.2.2)
 | .fn a r,g,κ=>κ (.fv a r g,[],id)
 | .ro t,x,κ=>κ (.cH t x,[],id)
 | .nil,_,κ=>κ (.nil,[],id)
 | .err,x,κ=>κ (.err x,[],id)
 | .aQ,x,κ=>κ (.ptr id 0,[(id, .aQ (id+1)),(id+1, .buf x)],id+2)
 | .cj cs,x,κ=>let a:=aT S (id+1) cs x; κ (.cj id (CK.bJ S cs),(id, .cells a.1)::a.2.1,a.2.2)
 | .bO _ _,_,_=> .fail
def cI (bx:Bx S.C) (c:CK) (vs:List (V S.C)):Option (c.den S.C×aA S.C):=
 match c with
 | .data t=>(gQ S bx t vs).bind fun x=>some (x,(vs.take (Ty.sz S t)).flatMap (cn S bx))
 | .aP e=>match vs with
  | .aP b e' l::_=>match bx b with
   | some .tail=>(dj S (.sl e') (.sl e) l).bind fun x=>some (x,[(b, .dead)])
   | _=>none
  | .b8::_=>some ([],[])
  | _=>none
 | .az e=>match vs with
  | .az b::_=>match bx b with
   | some (.arr e' l)=>(dj S (.sl e') (.sl e) l).bind fun x=>some (x,[(b, .dead)])
   | _=>none
  | .pre b n::_=>match bx b with
   | some (.arr e' l)=>(dj S (.sl e') (.sl e) (List.take n.toNat l)).bind fun x=>some (x,[(b, .dead)])
   | _=>none
  | .b8::_=>some ([],[])
  | _=>none
 | .aF u=>match vs with
  | .az b::_=>match bx b with
   | some (.aF u' l none)=>(dj S (.sl (.st u')) (.sl (.st u)) l).bind fun x=>some (x,[(b, .dead)])
   | _=>none
  | .b8::_=>some ([],[])
  | _=>none
def cy (bx:Bx S.C):(cs:List CK)→List (V S.C)→Option (aJ S.C cs×aA S.C)
 | [],_=>some ((),[])
 | c::cs,vs=>(cI S bx c vs).bind fun a=>
  (cy (ah bx a.2) cs (vs.drop (CK.sz S c))).bind fun b=>some (aJ.cons a.1 b.1,a.2++b.2)
def D2:V S.C→Bool
 | .az _=>false
 | _=>true
def kH (bx:Bx S.C) (t:Ty) (v:V S.C):Option (t.den S.C):=match v with
 | .ptr b 0=>match bx b with
  | some (.bH ws)=>cond (ws.all (D2 S)) (gQ S bx t ws) none
  | _=>none
 | .cH u x=>dj S u t x
 | _=>none
def caps (bx:Bx S.C):(ts:List Ty)→List (V S.C)→Option (ag S.C ts)
 | [],[]=>some ()
 | t::ts,v::vs=>(kH S bx t v).bind fun x=>(caps bx ts vs).bind fun r=>some (ag.cons x r)
 | _,_=>none
def nV (fs:List (gu S)) (bx:Bx S.C) (a r:List Ty):V S.C→Option (ag S.C a→Option (ag S.C r))
 | .fv a' r' g=>if h:a'=a then if h':r'=r then some (h'▸h▸g) else none else none
 | .fe f vs=>fs.findSome? fun e=>
  if e.f=f then (if h:e.a=a then if h':e.r=r then (caps S bx e.c vs).bind fun y=>some (h'▸h▸fun x=>e.sp x y) else none else none) else none
 | _=>none
def fY (bx:Bx S.C) (cs:List CK) (b:Nat):Option (aJ S.C cs×aA S.C):=match bx b with
 | some (.cells vs)=>cond (Nat.beq vs.length (CK.bJ S cs)) ((cy S (ai bx b (some .dead)) cs (vs.drop 0)).bind fun a=>some (a.1,(b, .dead)::a.2)) none
 | _=>none
def bS (fs:List (gu S)) (bx:Bx S.C) (k:K) (v:V S.C):Option (k.den S.C×aA S.C):=
 match k with
 | .val (.data t)=>(datum S bx t v).bind fun x=>some (x,cQ S bx v)
 | .val (.aP e)=>cI S bx (.aP e) [v]
 | .val (.az e)=>cI S bx (.az e) [v]
 | .val (.aF u)=>cI S bx (.aF u) [v]
 | .agg u cs=>match v with
  | .agg u' vs=>cond (Nat.beq u u'&&Nat.beq vs.length (CK.bJ S cs)) (cy S bx cs vs) none
  | _=>none
 | .obj cs=>match v with
  | .ptr b off=>match bx b with
   | some (.cells vs)=>cond (Nat.beq off 0&&Nat.beq vs.length (CK.bJ S cs)) ((cy S (ai bx b (some .dead)) cs (vs.drop off)).bind fun a=>some (a.1,(b, .dead)::a.2)) none
   | _=>none
  | _=>none
 | .nil=>match v with
  | .nil=>some ((),[])
  | _=>none
 | .ro t=>(kH S bx t v).bind fun x=>some (x,[])
 | .fn a r=>(nV S fs bx a r v).bind fun g=>some (g,[])
 | .opt cs=>match v with
  | .nil=>some (none,[])
  | .ptr b off=>match bx b with
   | some (.cells vs)=>cond (Nat.beq off 0&&Nat.beq vs.length (CK.bJ S cs)) ((cy S (ai bx b (some .dead)) cs (vs.drop off)).bind fun a=>some (some a.1,(b, .dead)::a.2)) none
   | _=>none
  | _=>none
 | .err=>match v with
  | .err b=>some (b,[])
  | _=>none
 | .aQ=>match v with
  | .ptr b off=>match bx b with
   | some (.aQ j)=>match bx j with
    | some (.buf l)=>cond (Nat.beq off 0) (some (l,[(b, .dead),(j, .dead)])) none
    | _=>none
   | _=>none
  | _=>none
 | .cj cs=>match v with
  | .cj b n=>match bx b with
   | some (.cells vs)=>cond (Nat.beq n vs.length&&Nat.beq vs.length (CK.bJ S cs)) ((cy S (ai bx b (some .dead)) cs (vs.drop 0)).bind fun a=>some (a.1,(b, .dead)::a.2)) none
   | _=>none
  | _=>none
 | .bO t cs=>match v with
  | .split b c=>(fY S bx [.data t] c).bind fun x=>(fY S (ah bx x.2) cs b).bind fun y=>some ((x.1,y.1),x.2++y.2)
  | _=>none
def dP (fs:List (gu S)) (bx:Bx S.C):(ks:List K)→List (V S.C)→Option (Ks S.C ks×aA S.C)
 | [],[]=>some ((),[])
 | k::ks,v::vs=>(bS S fs bx k v).bind fun a=>(dP fs (ah bx a.2) ks vs).bind fun b=>some (Ks.cons a.1 b.1,a.2++b.2)
 | _,_=>none
def setCells (vs:List (V S.C)) (off:Nat) (ws:List (V S.C)):List (V S.C):=vs.take off++ws++vs.drop (off+ws.length)
def eU (id:Nat):(ks:List K)→List (V S.C)→Ks S.C (outs ks)→aA S.C
 | [],_,_=> []
 | .obj cs::ks,v::vs,x=>match v with
  | .ptr b _=>
   let a:=aT S id cs (Ks.head (t:= .obj cs) x)
   (b, .cells a.1)::a.2.1++eU a.2.2 ks vs (Ks.tail (t:= .obj cs) x)
  | _=> []
 | .aQ::ks,v::vs,x=>match v with
  | .ptr b _=>(b, .aQ id)::(id, .buf (Ks.head (t:= .aQ) x))::eU (id+1) ks vs (Ks.tail (t:= .aQ) x)
  | _=> []
 | .bO t cs::ks,v::vs,x=>match v with
  | .split b c=>
   let y:=Ks.head (t:= .bO t cs) x
   let a0:=aT S id [.data t] y.1
   let a:=aT S id cs y.2
   (c, .cells a0.1)::(b, .cells a.1)::a.2.1++eU a.2.2 ks vs (Ks.tail (t:= .bO t cs) x)
  | _=> []
 | .val _::ks,_::vs,x=>eU id ks vs x
 | .opt _::ks,_::vs,x=>eU id ks vs x
 | .nil::ks,_::vs,x=>eU id ks vs x
 | .ro _::ks,_::vs,x=>eU id ks vs x
 | .fn _ _::ks,_::vs,x=>eU id ks vs x
 | .cj _::ks,_::vs,x=>eU id ks vs x
 | .err::ks,_::vs,x=>eU id ks vs x
 | .agg _ _::ks,_::vs,x=>eU id ks vs x
 | _::_,[],_=> []
def cZ:List K→List (V S.C)→List Nat
 | .obj _::ks, .ptr b _::vs=>b::cZ ks vs
 | .aQ::ks, .ptr b _::vs=>b::cZ ks vs
 | .bO _ _::ks, .split b c::vs=>c::b::cZ ks vs
 | _::ks,_::vs=>cZ ks vs
 | _,_=> []
def ir (dY:Bool) (us:aA S.C):aA S.C:=cond dY us (us.filter fun u=>match u.2 with
 | .bn _ _=>false
 | _=>true)
end
end Go.Sy
namespace Go.Sy
section
variable (S:aK)
variable (T:gy S)
abbrev Rt:=Tr (V S.C×aA S.C)
def ax (v:V S.C) (us:aA S.C):Rt S:= .ret (v,us)
def jJ (t:Nat):Option Nat:=match S.ar t with
 | some _=>none
 | none=>match S.ty t with
  | some (.st u)=>some u
  | _=>none
def mL (t:Nat):Option (Nat×Ty×Nat):=match S.ar t with
 | some (n,e)=>match e,S.ty t with
  | .st _,_=>none
  | e,some (.st u)=>some (n,e,u)
  | _,_=>none
 | none=>none
def uw (t:Nat):Option (Nat×Nat×Nat):=match S.ar t with
 | some (n,e)=>match e,S.ty t with
  | .st w,some (.st u)=>some (n,w,u)
  | _,_=>none
 | none=>none
def dM (t:Nat):Option Ty:=match S.ty t with
 | some (.sl e)=>some e
 | _=>none
def arith (op:BinOp) (k:IntKind) (x y:Int):Option (List Gd×V S.C):=
 match op with
 | .add=>some ([], .d (.int k) (k.wrap (x+y)))
 | .sub=>some ([], .d (.int k) (k.wrap (x - y)))
 | .mul=>some ([], .d (.int k) (k.wrap (x*y)))
 | .quo=>some ([gd (¬ y=0)], .d (.int k) (k.wrap (x.tdiv y)))
 | .rem=>some ([gd (¬ y=0)], .d (.int k) (x.tmod y))
 | .and=>some ([], .d (.int k) (k.wrap ((BitVec.ofInt k.bits x &&& BitVec.ofInt k.bits y).toNat:Nat)))
 | .shl=>some ([gd (0≤y)], .d (.int k) (k.wrap (x*2 ^ (min y.toNat k.bits))))
 | .shr=>some ([gd (0≤y)], .d (.int k) (x.fdiv (2 ^ (min y.toNat k.bits))))
 | .eql=>some ([], .pr (x=y) inferInstance)
 | .neq=>some ([], .pr (x≠y) inferInstance)
 | .lss=>some ([], .pr (x<y) inferInstance)
 | .leq=>some ([], .pr (x≤y) inferInstance)
 | .gtr=>some ([], .pr (y<x) inferInstance)
 | .geq=>some ([], .pr (y≤x) inferInstance)
 | _=>none
def A7 (op:BinOp) (x y:List UInt8):Option (List Gd×V S.C):=
 match op with
 | .add=>some ([gd (x.length+y.length≤9223372036854775807)], .d .str (x++y))
 | .eql=>some ([], .pr (x=y) inferInstance)
 | .neq=>some ([], .pr (x≠y) inferInstance)
 | _=>none
def V.int? {D:Nat→Type} :V D→Option (IntKind×Int)
 | .d (.int k) n=>some (k,n)
 | _=>none
def V.nv {D:Nat→Type} :V D→Option (List UInt8)
 | .d .str s=>some s
 | _=>none
def V.bool? {D:Nat→Type} :V D→Option Bool
 | .d .bool b=>some b
 | .pr p i=>some (@decide p i)
 | _=>none
def DJ:BinOp→Bool
 | .shl | .shr=>true
 | _=>false
def ux (op:BinOp) (t:Nat) (x y:V S.C):Option (List Gd×V S.C):=
 match x.int?,y.int? with
 | some (k,a),some (k',b)=>if DJ op=true∨k=k' then arith S op k a b else none
 | _,_=>match x.nv,y.nv with
  | some a,some b=>A7 S op a b
  | _,_=>match x.bool?,y.bool? with
   | some a,some b=>cond (match S.ty t with | some .bool=>true | _=>false) (match op with
    | .eql=>some ([], .pr (a=b) inferInstance)
    | .neq=>some ([], .pr (a≠b) inferInstance)
    | _=>none) none
   | _,_=>cond (S.pt t) (match x,y with
    | .nil, .nil=>match op with
     | .eql=>some ([], .d .bool true)
     | .neq=>some ([], .d .bool false)
     | _=>none
    | .ptr _ _, .nil=>match op with
     | .eql=>some ([], .d .bool false)
     | .neq=>some ([], .d .bool true)
     | _=>none
    | _,_=>none) none
def pR:(t:Ty)→t.den S.C→t.den S.C→Prop
 | .int _,x,y=> @Eq Int x y
 | .bool,x,y=> @Eq Bool x y
 | .str,x,y=> @Eq (List UInt8) x y
 | _,_,_=>False
def Cn:(t:Ty)→(x y:t.den S.C)→Decidable (pR S t x y)
 | .int _,x,y=>(inferInstance:DecidableEq Int) x y
 | .bool,x,y=>(inferInstance:DecidableEq Bool) x y
 | .str,x,y=>(inferInstance:DecidableEq (List UInt8)) x y
 | .st _,_,_=>instDecidableFalse
 | .sl _,_,_=>instDecidableFalse
 | .pt,_,_=>instDecidableFalse
def iF:(ts:List Ty)→ag S.C ts→ag S.C ts→Prop
 | [],_,_=>True
 | [t],x,y=>pR S t x y
 | t::u::ts,x,y=>pR S t x.1 y.1∧iF (u::ts) x.2 y.2
def rP:(ts:List Ty)→(x y:ag S.C ts)→Decidable (iF S ts x y)
 | [],_,_=>instDecidableTrue
 | [t],x,y=>Cn S t x y
 | t::u::ts,x,y=> @instDecidableAnd _ _ (Cn S t x.1 y.1) (rP (u::ts) x.2 y.2)
def structEq (op:BinOp) (t:Nat) (x y:V S.C):Rt S:=
 match S.ty t with
 | some (.st u)=>match datum S (fun _=>none) (.st u) x,datum S (fun _=>none) (.st u) y with
  | some a,some b=>match op with
   | .eql=>ax S (.pr (iF S (S.F u) (S.ex u a) (S.ex u b)) (rP S (S.F u) (S.ex u a) (S.ex u b))) []
   | .neq=>ax S (.pr (¬ iF S (S.F u) (S.ex u a) (S.ex u b)) (@instDecidableNot _ (rP S (S.F u) (S.ex u a) (S.ex u b)))) []
   | _=> .fail
  | _,_=> .fail
 | _=> .fail
def B8:Value→Option (V S.C)
 | .int k n=>some (.d (.int k) n)
 | .bool b=>some (.d .bool b)
 | .string s=>some (.d .str s.data.toList)
 | .pointer none=>some .nil
 | .slice none 0 0=>some .b8
 | _=>none
def aE (tm:Nat→V S.C):Operand→Option (V S.C)
 | .tmp t=>some (tm t)
 | .const v=>B8 S v
 | .func f=>some (.fe f [])
 | .global _=>none
def iK (tm:Nat→V S.C):Option Operand→Option (Option (V S.C))
 | none=>some none
 | some x=>(aE S tm x).bind fun v=>some (some v)
def bG:V S.C→Bool
 | .d (.st _) _=>false
 | .d _ _ | .pr _ _ | .aP _ _ _ | .az _ | .ptr _ _ | .cG _ _ _ | .cH _ _ | .nil | .b8 | .fv _ _ _=>true
 | _=>false
def fits (vs:List (V S.C)) (n:Nat):Bool:=Nat.beq vs.length n&&vs.all (bG S)
def rU (u:Nat) (vs:List (V S.C)):List (Nat×V S.C)→Option (List (V S.C))
 | []=>some vs
 | (i,v)::r=>match S.eO u i with
  | some (o,t)=>cond (fits S (cellsOf S v) (Ty.sz S t)&&Nat.ble (o+Ty.sz S t) vs.length) (rU u (setCells S vs o (cellsOf S v)) r) none
  | none=>none
def kP (bx:Bx S.C) (e:Ty) (l:List (e.den S.C)):List (Nat×V S.C)→Option (List (e.den S.C)×aA S.C)
 | []=>some (l,[])
 | (i,v)::r=>cond (Nat.blt i (List.length l)) ((datum S bx e v).bind fun x=>(kP bx e (l.set i x) r).bind fun b=>some (b.1,cQ S bx v++b.2)) none
def gi (e:Ty) (l:List (e.den S.C)) (i:Int):e.den S.C:=l.getD i.toNat (Ty.zero S e)
def partOf (e:Ty) (x:e.den S.C) (off:Nat) (t:Ty):Option (t.den S.C):=gQ S (fun _=>none) t ((iG S e x).drop off)
def limit:Nat:=140737488355328
def zo (t:Ty) (bx:Bx S.C):V S.C→Rt S
 | .ptr b off=>match bx b with
  | some (.cells vs) | some (.bH vs)=>match t with
   | .st u=>cond (Nat.ble (off+(S.F u).length) vs.length) (ax S (.agg u ((vs.drop off).take (S.F u).length)) []) .fail
   | _=>match vs[off]? with
    | some v=>ax S v []
    | none=> .fail
  | _=> .fail
 | .cH u x=>match dj S u t x with
  | some y=>ax S (.d t y) []
  | none=> .fail
 | .i_ c=>match t with
  | .pt=>ax S (.ptr c 0) []
  | _=> .fail
 | .cG b i off=>match bx b with
  | some (.arr e l) | some (.bn e l)=>match partOf S e (gi S e l i) off t with
   | some y=>ax S (.d t y) []
   | none=> .fail
  | _=> .fail
 | _=> .fail
def tP (t:Ty) (bx:Bx S.C) (v:V S.C):V S.C→Rt S
 | .ptr b off=>match bx b with
  | some (.cells vs)=>cond (fits S (cellsOf S v) (Ty.sz S t)&&Nat.ble (off+Ty.sz S t) vs.length) (ax S .skip [(b, .cells (setCells S vs off (cellsOf S v)))]) .fail
  | _=> .fail
 | .cG b i off=>match bx b with
  | some (.arr e l)=>match datum S bx t v with
   | some y=>cond (Nat.ble (off+Ty.sz S t) (Ty.sz S e)&&(cQ S bx v).all fun u=> !Nat.beq u.1 b) (match gQ S (fun _=>none) e (setCells S (iG S e (gi S e l i)) off (iG S t y)) with
    | some e'=>ax S .skip (cQ S bx v++ [(b, .arr e (l.set i.toNat e'))])
    | none=> .fail) .fail
   | none=> .fail
  | _=> .fail
 | _=> .fail
def A5 (u:Nat) (bx:Bx S.C) (v:V S.C):V S.C→Rt S
 | .ptr b off=>match bx b with
  | some (.cells vs)=>cond (fits S (cellsOf S v) (Ty.sz S (.st u))&&Nat.ble (off+Ty.sz S (.st u)) vs.length) (ax S .skip [(b, .bH (setCells S vs off (cellsOf S v)))]) .fail
  | _=> .fail
 | _=> .fail
def gE (bx:Bx S.C):V S.C→Option (Nat×Int)
 | .cG b i 0=>match bx b with
  | some (.aF _ _ _)=>some (b,i)
  | _=>none
 | _=>none
def rowAt (bx:Bx S.C):V S.C→Option Nat
 | .az c=>match bx c with
  | some (.aF _ _ _)=>some c
  | _=>none
 | _=>none
def oneMore (n:Nat):CK→Nat
 | .data _=>n
 | _=>n+1
def zp (B:Nat) (t:Ty) (bx:Bx S.C) (b:Nat) (i:Int):Rt S:=match bx b with
 | some (.aF u l none)=>match t with
  | .st u'=>cond (Nat.beq u' u) (match partsOf S u (gi S (.st u) l i) with
   | some y=>cond (Nat.ble ((S.own u).foldl oneMore 0) 16) (ax S (.agg u (aT S B (S.own u) y).1) ((b, .aF u l (some i))::(aT S B (S.own u) y).2.1)) .fail
   | none=> .fail) .fail
  | _=> .fail
 | _=> .fail
def jL (u:Nat) (bx:Bx S.C):V S.C→Option (S.C u×aA S.C)
 | .agg u' vs=>cond (Nat.beq u u'&&Nat.beq vs.length (CK.bJ S (S.own u))) ((cy S bx (S.own u) vs).bind fun a=>(Be S u a.1).bind fun x=>some (x,a.2)) none
 | _=>none
def A6 (t:Ty) (bx:Bx S.C) (v:V S.C) (b:Nat) (i:Int):Rt S:=match bx b with
 | some (.aF u l (some j))=>cond (decide (t= .st u)) (match jL S u bx v with
  | some (x,us)=>cond (us.all fun q=> !Nat.beq q.1 b) (.gd [gd (j=i)] (ax S .skip (us++ [(b, .aF u (l.set i.toNat x) none)]))) .fail
  | none=> .fail) .fail
 | _=> .fail
def xV (t f:Nat):V S.C→Rt S
 | .ptr b off=>match jJ S t with
  | some u=>match S.eO u f with
   | some (o,_)=>ax S (.ptr b (off+o)) []
   | none=> .fail
  | _=> .fail
 | .cH (.st u) x=>match jJ S t with
  | some u'=>cond (Nat.beq u u') (match S.eO u f with
   | some (o,w)=>match partOf S (.st u) x o w with
    | some y=>ax S (.cH w y) []
    | none=> .fail
   | none=> .fail) .fail
  | _=> .fail
 | .cG b i off=>match jJ S t with
  | some u=>match S.eO u f with
   | some (o,_)=>ax S (.cG b i (off+o)) []
   | none=> .fail
  | _=> .fail
 | .split b c=>match jJ S t with
  | some u=>match S.eO u f with
   | some (o,_)=>match o with
    | 0=>ax S (.i_ c) []
    | o+1=>ax S (.ptr b o) []
   | none=> .fail
  | _=> .fail
 | _=> .fail
def cX (i:Int) (n:Nat):List Gd:= [gd (0≤i),gd (i<(n:Int))]
def l7 (v:V S.C):Option Int:=v.int?.map (·.2)
def zL (b:Nat) (i:Int) (j:Nat):Nat→Rt S
 | 0=> .fail
 | n+1=> .ite (i=(j:Int)) (Int.instDecidableEq i (j:Int)) (ax S (.ptr b j) []) (zL b i (j+1) n)
def zc (e0:Ty) (bx:Bx S.C) (i:Int):V S.C→Rt S
 | .d (.sl e) l=>if e=e0 then .gd (cX i l.length) (ax S (.cH e (gi S e l i)) []) else .fail
 | .aP _ e l=>if e=e0 then .gd (cX i l.length) (ax S (.cH e (gi S e l i)) []) else .fail
 | .az b=>match bx b with
  | some (.arr e l) | some (.bn e l)=>if e=e0 then .gd (cX i l.length) (ax S (.cG b i 0) []) else .fail
  | some (.aF u l _)=>if .st u=e0 then .gd (cX i l.length) (ax S (.cG b i 0) []) else .fail
  | _=> .fail
 | .cj b n=>match e0 with
  | .sl _=> .gd (cX i n) (zL S b i 0 n)
  | _=> .fail
 | _=> .fail
def rowOf (e:Ty):List (V S.C)→Option (List (e.den S.C))
 | []=>some []
 | v::vs=>(cF S (fun _=>none) e v).bind fun x=>(rowOf e vs).bind fun r=>some (x::r)
def w7 (n:Nat) (e:Ty) (u:Nat) (bx:Bx S.C) (j:Int):V S.C→Rt S
 | .ptr b off=>match bx b with
  | some (.cells vs) | some (.bH vs)=>match rowOf S e ((vs.drop off).take n) with
   | some l=> .gd (cX j l.length) (ax S (.cH e (gi S e l j)) [(b, .bH vs)])
   | none=> .fail
  | _=> .fail
 | .cH t x=>match dj S t (.st u) x with
  | some y=>match rowOf S e ((iG S (.st u) y).take n) with
   | some l=> .gd (cX j l.length) (ax S (.cH e (gi S e l j)) [])
   | none=> .fail
  | none=> .fail
 | _=> .fail
def rA (u:Nat):V S.C→Option (List (V S.C))
 | .agg u' vs=>cond (Nat.beq u u') (some vs) none
 | .d t x=>(dj S t (.st u) x).bind fun y=>some (iG S (.st u) y)
 | _=>none
def w8 (n:Nat) (e:Ty) (u:Nat) (j:Int) (v:V S.C):Rt S:=
 match rA S u v with
 | some vs=>match rowOf S e (vs.take n) with
  | some l=> .gd (cX j l.length) (ax S (.d e (gi S e l j)) [])
  | none=> .fail
 | none=> .fail
def uv (w k:Nat) (j:Int) (vs:List (V S.C)):(i m:Nat)→Rt S
 | _,0=> .fail
 | i,m+1=> .ite (j=(i:Int)) inferInstance (ax S (.agg w ((vs.drop (i*k)).take k)) []) (uv w k j vs (i+1) m)
def bounds (n:Nat) (lo hi:Option (V S.C)):Option (List Gd×Int×Int):=
 match lo,hi with
 | none,none=>some ([],0,n)
 | some a,none=>(l7 S a).bind fun l=>some ([gd (0≤l),gd (l≤(n:Int))],l,n)
 | none,some b=>(l7 S b).bind fun h=>some ([gd (0≤h),gd (h≤(n:Int))],0,h)
 | some a,some b=>(l7 S a).bind fun l=>(l7 S b).bind fun h=>some ([gd (0≤h),gd (h≤(n:Int)),gd (0≤l),gd (l≤h)],l,h)
def cut {α:Type} (l:List α) (a b:Int):List α:=(l.take b.toNat).drop a.toNat
def cutFrom {α:Type} (l:List α) (a:Int):List α:=l.drop a.toNat
def iT {α:Type} (l:List α) (a b:Int) (hi:Option (V S.C)):List α:=match hi with
 | none=>cutFrom l a
 | some _=>cut l a b
def mw (k:Nat) (a b:Int):Option (V S.C)→V S.C
 | none=> .pre k b
 | some _=> .win k a (b - a)
def kY {α:Type} (l:List α) (n i m:Int):List α:=l.take n.toNat++(l.drop i.toNat).take m.toNat++l.drop (n+m).toNat
def rK {α:Type} (z:α) (l:List α) (i m:Int):List α:=l.take i.toNat++List.replicate m.toNat z++l.drop (i+m).toNat
def AY (vw:Bool) (T0:Ty) (bx:Bx S.C) (lo hi:Option (V S.C)):V S.C→Rt S
 | .d .str s=>if T0= .str then match bounds S (List.length s) lo hi with
  | some (gs,a,b)=> .gd gs (ax S (.d .str (iT S s a b hi)) [])
  | none=> .fail else .fail
 | .d (.sl e) s=>if T0= .sl e then match bounds S (List.length s) lo hi with
  | some (gs,a,b)=> .gd gs (ax S (.d (.sl e) (iT S s a b hi)) [])
  | none=> .fail else .fail
 | .aP k e s=>if T0= .sl e then match bounds S s.length lo hi with
  | some (gs,a,b)=> .gd gs (ax S (match hi with | none=> .aP k e (cutFrom s a) | some _=> .d (.sl e) (cut s a b)) [])
  | none=> .fail else .fail
 | .az k=>match bx k with
  | some (.arr e s)=>if T0= .sl e then match bounds S s.length lo hi with
   | some (gs,a,b)=> .gd gs (cond vw (ax S (mw S k a b lo) []) (ax S (.d (.sl e) (iT S s a b hi)) [(k, .bn e s)]))
   | none=> .fail else .fail
  | some (.bn e s)=>if T0= .sl e then match bounds S s.length lo hi with
   | some (gs,a,b)=> .gd gs (ax S (.d (.sl e) (iT S s a b hi)) [])
   | none=> .fail else .fail
  | _=> .fail
 | .pre k n=>match bx k with
  | some (.arr e s)=>if T0= .sl e then match bounds S (match hi with | none=>n.toNat | some _=>s.length) lo hi with
   | some (gs,a,b)=> .gd gs (ax S (mw S k a b lo) [])
   | none=> .fail else .fail
  | _=> .fail
 | _=> .fail
def AX (T0:Ty) (bx:Bx S.C) (lo hi mx:V S.C):V S.C→Rt S
 | .az k=>match bx k with
  | some (.arr e s)=>if T0= .sl e then match l7 S lo,l7 S hi,l7 S mx with
   | some a,some b,some c=> .gd [gd (0≤a),gd (a≤b),gd (b≤c),gd (c≤(s.length:Int))] (ax S .undef [])
   | _,_,_=> .fail else .fail
  | _=> .fail
 | _=> .fail
def xC (e:Ty) (bx:Bx S.C):V S.C→Rt S
 | .win b i m=>match bx b with
  | some (.arr e' l)=>match dj S (.sl e') (.sl e) l with
   | some l=>ax S (.gG []) [(b, .arr e (rK (Ty.zero S e) l i m))]
   | none=> .fail
  | _=> .fail
 | _=> .fail
def pH (B:Nat) (af:Nat) (e:Ty) (bx:Bx S.C) (x:V S.C):V S.C→Rt S
 | .aP b e' l=>match bx b with
  | some .tail=>match dj S (.sl e') (.sl e) l with
   | some l=>match datum S bx (.sl e) x with
    | some y=> .gd [gd ((List.length l+List.length y)*af≤limit)] (ax S (.aP (B) e (List.append l y)) [(b, .dead),(B, .tail)])
    | none=> .fail
   | none=> .fail
  | _=> .fail
 | .az b=>match bx b with
  | some (.arr e' l)=>match dj S (.sl e') (.sl e) l with
   | some l=>match datum S bx (.sl e) x with
    | some y=> .gd [gd ((List.length l+List.length y)*af≤limit)] (ax S (.az (B)) [(b, .dead),(B, .arr e (List.append l y))])
    | none=> .fail
   | none=> .fail
  | _=> .fail
 | .pre b n=>match bx b,x with
  | some (.arr e' l), .win b' i m=>cond (Nat.beq b' b) (match dj S (.sl e') (.sl e) l with
   | some l=> .gd [gd (n≤i),gd (List.length l*af≤limit)] (ax S (.pre B (n+m)) [(b, .dead),(B, .arr e (kY l n i m))])
   | none=> .fail) .fail
  | _,_=> .fail
 | .b8=>match datum S bx (.sl e) x with
  | some y=> .gd [gd (List.length y*af≤limit)] (ax S (.az (B)) [(B, .arr e y)])
  | none=> .fail
 | _=> .fail
def ur (B:Nat) (af:Nat) (e:Ty) (bx:Bx S.C) (c:Nat):V S.C→Rt S
 | .az b=>match bx b,bx c with
  | some (.aF u l none),some (.aF u' l' none)=>cond (decide (e= .st u)&& !Nat.beq b c) (match dj S (.sl (.st u')) (.sl (.st u)) l' with
   | some l'=> .gd [gd ((List.length l+List.length l')*af≤limit)] (ax S (.az B) [(b, .dead),(c, .dead),(B, .aF u (List.append l l') none)])
   | none=> .fail) .fail
  | _,_=> .fail
 | .b8=>match bx c with
  | some (.aF u l none)=>cond (decide (e= .st u)) (.gd [gd (List.length l*af≤limit)] (ax S (.az B) [(c, .dead),(B, .aF u l none)])) .fail
  | _=> .fail
 | _=> .fail
def s6 (B:Nat) (e:Ty) (bx:Bx S.C):List (V S.C)→Rt S
 | [v]=>match e with
  | .st u=>cond (Nat.ble (Ty.sz S (.st u)) 16777216) (match jL S u bx v with
   | some (x,us)=>ax S (.az B) (us++ [(B, .aF u [x] none)])
   | none=> .fail) .fail
  | _=> .fail
 | _=> .fail
def xd (u:Ty):V S.C→Rt S
 | .d t y=>match dj S t u y with
  | some y=>ax S (.cH u y) []
  | none=> .fail
 | _=> .fail
def C1:Ty→Bool
 | .st u=> !(S.own u).isEmpty
 | _=>false
def zm (T0:Ty) (bx:Bx S.C):V S.C→Rt S
 | .d .str s=>if T0= .str then ax S (.d (.int .i64) (List.length s:Int)) [] else .fail
 | .b8=>match T0 with
  | .sl _=>ax S (.d (.int .i64) (0:Int)) []
  | _=> .fail
 | .d (.sl e) l=>if T0= .sl e then ax S (.d (.int .i64) (List.length l:Int)) [] else .fail
 | .aP _ e l=>if T0= .sl e then ax S (.d (.int .i64) (l.length:Int)) [] else .fail
 | .az b=>match bx b with
  | some (.arr e l) | some (.bn e l)=>if T0= .sl e then ax S (.d (.int .i64) (l.length:Int)) [] else .fail
  | some (.aF u l _)=>if T0= .sl (.st u) then ax S (.d (.int .i64) (l.length:Int)) [] else .fail
  | _=> .fail
 | .pre b n=>match bx b with
  | some (.arr e _)=>if T0= .sl e then ax S (.d (.int .i64) n) [] else .fail
  | _=> .fail
 | _=> .fail
def vC (id:Nat):(rs:List K)→Ks S.C rs→(List (V S.C)×aA S.C×Nat→Rt S)→Rt S
 | [],_,κ=>κ ([],[],id)
 | k::rs,x,κ=>zu S id k (Ks.head x) fun (v,us,id')=>vC id' rs (Ks.tail x) fun (vs,us',Kh)=>κ (v::vs,us++us',Kh)
def mq:List (V S.C)→V S.C
 | [v]=>v
 | vs=> .gG vs
def jd:(rs os:List K)→Ks S.C (rs++os)→Ks S.C rs×Ks S.C os
 | [],_,x=>((),x)
 | _::rs,os,x=>let (a,b):=jd rs os (Ks.tail x); (Ks.cons (Ks.head x) a,b)
def jt:K→Nat
 | .val (.data _) | .ro _ | .fn _ _ | .nil | .err=>0
 | .agg _ cs=>cs.foldl oneMore 0
 | .val _=>1
 | .obj cs | .opt cs | .cj cs=>1+cs.foldl oneMore 0
 | .aQ=>2
 | .bO _ cs=>2+cs.foldl oneMore 0
def ig:List K→Nat
 | []=>0
 | k::ks=>jt k+ig ks
def qc:K→Bool
 | .agg _ _=>false
 | _=>true
def w4:List K→Bool
 | [_]=>true
 | ks=>ks.all qc
def vA (e:Entry S):Bool:= !((e.rs++outs e.ps).all (nU S))
def mM (B:Nat) (bx:Bx S.C) (f:Nat) (args:List (V S.C)):Rt S:=
 match T.es.findSome? fun e=>if e.f=f then (dP S T.fs bx e.ps args).bind fun a=>some (⟨e,a⟩:(e:Entry S)×(Ks S.C e.ps×aA S.C)) else none with
 | some ⟨e,a⟩=>cond (Nat.ble (ig e.rs+ig (outs e.ps)) 16&&(cZ S e.ps args).all fun b=> !(Nat.ble B b&&Nat.blt b (B+16))) (.bind _ (e.sp a.1) fun r=>
  let p:=jd S e.rs (outs e.ps) r
  cond (w4 e.rs) (vC S B e.rs p.1 fun q=>ax S (mq S q.1) (ir S (vA S e) a.2++(q.2.1++eU S q.2.2 e.ps args p.2))) .fail) .fail
 | none=> .fail
def o5:(ts:List Ty)→ag S.C ts→List (V S.C)
 | [],_=> []
 | t::ts,x=> .d t (ag.head x)::o5 ts (ag.tail x)
def jk (bx:Bx S.C):(ts:List Ty)→List (V S.C)→Option (ag S.C ts×aA S.C)
 | [],[]=>some ((),[])
 | t::ts,v::vs=>(datum S bx t v).bind fun x=>(jk bx ts vs).bind fun b=>some (ag.cons x b.1,cQ S bx v++b.2)
 | _,_=>none
def rH (B:Nat) (bx:Bx S.C) (args:List (V S.C)):V S.C→Rt S
 | .fv a r g=>match jk S bx a args with
  | some (x,us)=> .bind _ (g x) fun y=>ax S (mq S (o5 S r y)) us
  | none=> .fail
 | .fe f []=>mM S T B bx f args
 | .fe f vs=>match T.fs.find? (·.f == f) with
  | some e=>match caps S bx e.c vs,jk S bx e.a args with
   | some y,some (x,us)=> .bind _ (e.sp x y) fun z=>ax S (mq S (o5 S e.r z)) us
   | _,_=> .fail
  | none=> .fail
 | _=> .fail
def jY (bx:Bx S.C):List (V S.C)→aA S.C
 | []=> []
 | .ptr b _::vs=>(match bx b with
  | some (.cells ws)=> [(b, .bH ws)]
  | _=> [])++jY bx vs
 | _::vs=>jY bx vs
def qQ (e:Ty):List (V S.C)→Option (List (List (e.den S.C)))
 | []=>some []
 | .aP _ e' l::vs=>(dj S (.sl e') (.sl e) l).bind fun x=>(qQ e vs).bind fun r=>some (x::r)
 | _::_=>none
def sS (t:Nat):Bool:=match S.bt with
 | some u=>Nat.beq u.1 t
 | none=>false
def settle (e:Option Ty) (bx:Bx S.C) (b n:Nat):Rt S:=
 match bx b with
 | some (.cells vs)=>match vs with
  | .b8::_=>ax S (.cj b n) []
  | vs=>match e with
   | some (.sl e)=>match qQ S e vs with
    | some l=>cond (Nat.beq n vs.length) (ax S (.d (.sl (.sl e)) l) [(b, .bH vs)]) .fail
    | none=> .fail
   | _=> .fail
 | _=> .fail
def vB (l c:Operand):Option Nat:=match l,c with
 | .const (.int .i64 (.ofNat n)), .const (.int .i64 (.ofNat m))=>cond (Nat.beq n m&&Nat.ble n 8) (some n) none
 | _,_=>none
def zf:Ty→Bool
 | .sl _=>true
 | _=>false
def bytesOf (l:List Int):List UInt8:=l.map fun n=>UInt8.ofNat n.toNat
def bZ (af:Nat→Nat) (B:Nat) (o:Op) (ty:Nat) (tm:Nat→V S.C) (bx:Bx S.C):Rt S:=
 let ev:=aE S tm
 match o with
 | .move x=>match ev x with
  | some .b8=>cond T.nl (ax S .b8 []) (match dM S ty with
   | some e=>ax S (.aP (B) e []) [(B, .tail)]
   | none=> .fail)
  | some v=>ax S v []
  | none=> .fail
 | .assign x=>match ev x with
  | some .b8=>cond T.nl (ax S .b8 []) (match dM S ty with
   | some e=>ax S (.aP (B) e []) [(B, .tail)]
   | none=> .fail)
  | some (.cj b n)=>settle S (dM S ty) bx b n
  | some v=>ax S v []
  | none=> .fail
 | .pick c a b=>match ev c with
  | some (.d .bool x)=>match (x:Bool) with
   | true=>match ev a with
    | some v=>ax S v []
    | none=> .fail
   | false=>match ev b with
    | some v=>ax S v []
    | none=> .fail
  | _=> .fail
 | .alloc t=>match S.ty t with
  | some u=>ax S (.ptr (B) 0) [(B, .cells (zeroCells S u))]
  | none=>cond (sS S t) (ax S (.ptr B 0) [(B+1, .buf []),(B, .aQ (B+1))]) .fail
 | .box t x=>match S.ty t,ev x with
  | some u,some v=>cond (T.ow&&(S.ar t).isSome) (xd S u v) (cond (fits S (cellsOf S v) (Ty.sz S u)) (match S.sp t with
   | false=>ax S (.ptr (B) 0) [(B, .cells (cellsOf S v))]
   | true=>match cellsOf S v with
    | .ptr c 0::vs=>ax S (.split B c) [(B, .cells vs)]
    | _=> .fail) .fail)
  | _,_=> .fail
 | .build t parts=>match S.ty t with
  | some (.st u)=>match parts.toList.mapM (fun p=>(ev p.2).map fun v=>(p.1,v)) with
   | some ps=>match rU S u (zeroCells S (.st u)) ps with
    | some vs=>ax S (.agg u vs) []
    | none=> .fail
   | none=> .fail
  | _=> .fail
 | .buildSlice t len parts=>match dM S t with
  | some e=>cond (T.ow&&C1 S e&&Nat.beq len 1) (match parts.toList with
   | [(0,x)]=>match ev x with
    | some v=>s6 S B e bx [v]
    | none=> .fail
   | _=> .fail) <| cond (T.vw&&Nat.beq len 0) (match parts.toList with
   | []=>ax S (.aP B e []) [(B, .tail)]
   | _=> .fail) (match parts.toList.mapM (fun p=>(ev p.2).map fun v=>(p.1,v)) with
   | some ps=>cond (Nat.ble (len*Ty.sz S e) 16777216) (match kP S bx e (List.replicate len (Ty.zero S e)) ps with
    | some (l,us)=>ax S (.az (B)) (us++ [(B, .arr e l)])
    | none=> .fail) .fail
   | none=> .fail)
  | none=> .fail
 | .load t x=>match S.ty t,ev x with
  | some T,some v=>match gE S bx v with
   | some (b,i)=>zp S B T bx b i
   | none=>zo S T bx v
  | _,_=> .fail
 | .store t x y=>match mL S t with
  | some (_,_,u)=>match ev x,ev y with
   | some p,some v=>A5 S u bx v p
   | _,_=> .fail
  | none=>match S.ty t,ev x,ev y with
   | some u,some p,some v=>match gE S bx p with
    | some (b,i)=>A6 S u bx v b i
    | none=>tP S u bx v p
   | _,_,_=> .fail
 | .nilCheck x=>match ev x with
  | some (.ptr b o)=>ax S (.ptr b o) []
  | some (.cH t x)=>ax S (.cH t x) []
  | some (.cG b i p)=>ax S (.cG b i p) []
  | some (.split b c)=>ax S (.split b c) []
  | _=> .fail
 | .binOp op t x (.const .nilIface) _=>match ev x with
  | some (.err b)=>cond (S.ou t) (match op with
   | .eql=>ax S (.d .bool b) []
   | .neq=>ax S (.d .bool (Bool.not b)) []
   | _=> .fail) .fail
  | _=> .fail
 | .binOp op t x y _=>cond (S.eq t) (match ev x,ev y with
  | some a,some b=>structEq S op t a b
  | _,_=> .fail) (match ev x,ev y with
  | some a,some b=>match ux S op t a b with
   | some (gs,v)=> .gd gs (ax S v [])
   | none=> .fail
  | _,_=> .fail)
 | .unOp op _ x=>match op,ev x with
  | .not,some (.pr p i)=>ax S (.pr (¬ p) (@instDecidableNot p i)) []
  | .not,some (.d .bool b)=>ax S (.d .bool (Bool.not b)) []
  | .neg,some v=>match v.int? with
   | some (k,n)=>ax S (.d (.int k) (k.wrap (0 - n))) []
   | none=> .fail
  | _,_=> .fail
 | .convert s t x=>match S.ty s,S.ty t,ev x with
  | some _,some (.int k),some v=>match v.int? with
   | some (_,n)=>ax S (.d (.int k) (k.wrap n)) []
   | none=> .fail
  | some T,some .str,some v=>match v.nv with
   | some s=>ax S (.d .str s) []
   | none=>match T,v with
    | .sl (.int .u8), .az b=>match bx b with
     | some (.arr (.int .u8) (n::l))=>ax S (.d .str (bytesOf (n::l))) []
     | _=> .fail
    | _,_=> .fail
  | _,_,_=> .fail
 | .makeFunc fn first cs=>match fn,first.toList with
  | .func f,[]=>match cs.toList.mapM ev with
   | some vs=>cond (vs.all (bG S)) (ax S (.fe f vs) (jY S bx vs)) .fail
   | none=> .fail
  | _,_=> .fail
 | .makeSlice t l c=>match dM S t,ev l,ev c with
  | some e,some v,some w=>match cond (T.vw&&zf e&&Nat.ble (af t) 64) (vB l c) none with
   | some n=>ax S (.cj B n) [(B, .cells (List.replicate n .b8))]
   | none=>match v.int?,w.int? with
    | some (.i64,n),some (.i64,m)=> .gd [gd (0≤n),gd (n≤m),gd (m*af t≤limit)] (ax S (.az (B)) [(B, .arr e (List.replicate n.toNat (Ty.zero S e)))])
    | _,_=> .fail
  | _,_,_=> .fail
 | .slice t x lo hi none=>match S.ty t,ev x,iK S tm lo,iK S tm hi with
  | some T0,some v,some l,some h=>AY S T.vw T0 bx l h v
  | _,_,_,_=> .fail
 | .slice t x (some lo) (some hi) (some mx)=>match S.ty t,ev x,ev lo,ev hi,ev mx with
  | some T0,some v,some l,some h,some m=>AX S T0 bx l h m v
  | _,_,_,_,_=> .fail
 | .fieldAddr t x f=>match ev x with
  | some v=>xV S t f v
  | none=> .fail
 | .field t x f=>match jJ S t,ev x with
  | some u,some (.d (.st u') y)=>cond (Nat.beq u u') (match S.eO u' f with
   | some (o,w)=>match partOf S (.st u') y o w with
    | some z=>ax S (.d w z) []
    | none=> .fail
   | none=> .fail) .fail
  | some u,some (.agg u' vs)=>cond (Nat.beq u u'&&vs.length == (S.F u).length) (match S.eO u f with
   | some (o, .st w)=>ax S (.agg w ((vs.drop o).take (S.F w).length)) []
   | some (o,_)=>match vs[o]? with
    | some v=>ax S v []
    | none=> .fail
   | none=> .fail) .fail
  | _,_=> .fail
 | .indexAddr t x i=>match mL S t with
  | some (n,e,u)=>match ev x,ev i with
   | some v,some w=>match w.int? with
    | some (_,j)=>w7 S n e u bx j v
    | none=> .fail
   | _,_=> .fail
  | none=>match dM S t,ev x,ev i with
   | some e,some v,some w=>match w.int? with
    | some (_,n)=>zc S e bx n v
    | none=> .fail
   | _,_,_=> .fail
 | .index t x i=>match mL S t with
  | some (n,e,u)=>match ev x,ev i with
   | some v,some w=>match w.int? with
    | some (_,j)=>w8 S n e u j v
    | none=> .fail
   | _,_=> .fail
  | none=>match uw S t with
   | some (n,m,u)=>match ev x,ev i with
    | some v,some w=>match rA S u v,w.int? with
     | some vs,some (_,j)=>cond (Nat.beq vs.length (n*(S.F m).length)) (uv S m (S.F m).length j vs 0 n) .fail
     | _,_=> .fail
    | _,_=> .fail
   | none=>match ev x,ev i with
    | some v,some w=>match S.ty t,v.nv,w.int? with
     | some .str,some s,some (_,n)=> .gd (cX n s.length) (ax S (.d (.int .u8) (((s.getD n.toNat 0).toNat:Nat):Int)) [])
     | _,_,_=> .fail
    | _,_=> .fail
 | .extract x i=>match ev x with
  | some (.gG vs)=>match vs[i]? with
   | some v=>ax S v []
   | none=> .fail
  | _=> .fail
 | .call c=>match c.args.toList.mapM ev with
  | none=> .fail
  | some args=>match c.callee with
   | .builtin .len=>match args,(c.argTypes[0]?).bind S.ty with
    | [v],some T=>zm S T bx v
    | _,_=> .fail
   | .builtin .append=>match args,c.argTypes.toList with
    | [s,x],[t,u]=>match dM S t,dM S u with
     | some e,some e'=>if e=e' then (match rowAt S bx x with
      | some c=>ur S B (af t) e bx c s
      | none=>pH S B (af t) e bx x s) else .fail
     | _,_=> .fail
    | _,_=> .fail
   | .builtin .clear=>match args,c.argTypes.toList with
    | [v],[t]=>match dM S t with
     | some e=>xC S e bx v
     | none=> .fail
    | _,_=> .fail
   | .builtin b=>match args with
    | [v,w]=>match v.int?,w.int? with
     | some (k,x),some (k',y)=>if k=k' then match b with
      | .min=>ax S (.d (.int k) (Min.min (α:=Int) x y)) []
      | .max=>ax S (.d (.int k) (Max.max (α:=Int) x y)) []
      | _=> .fail else .fail
     | _,_=> .fail
    | _=> .fail
   | .value f=>match ev f with
    | some v=>rH S T B bx args v
    | none=> .fail
   | _=> .fail
 | _=> .fail
def iZ (B:Nat):List Nat:=(List.range 16).map (B+ ·)
def l8 (tm:Nat→V S.C) (x:Operand):List Nat:=match aE S tm x with
 | some v=>aq S v
 | none=> []
def deep (bx:Bx S.C) (ids:List Nat):List Nat:=ids++ids.flatMap fun i=>match bx i with
 | some (.cells vs) | some (.bH vs)=>vs.flatMap (ak S)
 | some (.aQ j)=> [j]
 | _=> []
def au (vw:Bool) (B:Nat) (o:Op) (tm:Nat→V S.C) (bx:Bx S.C):List Nat×List Nat:=
 let ids:=o.operands.toList.flatMap (l8 S tm)
 match o with
 | .convert .. =>(ids,[])
 | .load _ x=>match (aE S tm x).bind (gE S bx) with
  | some _=>(ids++iZ B,ids++iZ B)
  | none=>(ids,[])
 | .indexAddr t _ _=>(ids,match S.ar t with | some _=>ids | none=> [])
 | .call { callee:= .builtin .len, .. } =>(ids,[])
 | .slice .. =>(ids,cond vw [] (ids++iZ B))
 | .call { callee:= .value _, .. } =>let ids:=deep S bx ids; (ids++iZ B,ids++iZ B)
 | .move x=>match aE S tm x with
  | some .b8=>(iZ B,iZ B)
  | _=>([],[])
 | .assign x=>match aE S tm x with
  | some .b8=>(iZ B,iZ B)
  | some (.cj b _)=>([b],[b])
  | _=>([],[])
 | .pick .. | .field .. | .fieldAddr .. | .extract .. | .unOp .. | .index .. | .binOp .. | .nilCheck _=>([],[])
 | _=>(ids++iZ B,ids++iZ B)
end
end Go.Sy
namespace Go.Sy
inductive AC where
 | skip
 | qy (id:Nat) (ops:Array Oper) (draw:Bool)
 | seq (a b:AC)
 | cut (n:Nat) (a b:AC)
 | cond (c:Operand) (a b:AC)
 | block (id:Nat) (a:AC)
 | loop (n:Nat) (a:AC)
 | exit (id:Nat)
 | ret
 | scope (a:AC)
 | bad (c:Code)
 deriving Inhabited
def AC.code:AC→Code
 | .skip=> .skip
 | .qy id ops draw=> .region id ops draw
 | .seq a b | .cut _ a b=> .seq a.code b.code
 | .cond c a b=> .cond c a.code b.code
 | .block id a=> .block id a.code
 | .loop _ a=> .loop a.code
 | .exit id=> .exit id
 | .ret=> .ret
 | .scope a=> .scope a.code
 | .bad c=>c
def AC.of (dn:List Nat):Code→(ls ss:Nat)→AC×Nat×Nat
 | .skip,l,s=>(.skip,l,s)
 | .region id ops draw,l,s=>(.qy id ops draw,l,s)
 | .seq a b,l,s=>
  let (x,l1,s1):=AC.of dn a l (s+1)
  let (y,l2,s2):=AC.of dn b l1 s1
  (match dn.idxOf? s with | some n=> .cut (2*n+1) x y | none=> .seq x y,l2,s2)
 | .cond c a b,l,s=>
  let (x,l1,s1):=AC.of dn a l s
  let (y,l2,s2):=AC.of dn b l1 s1
  (.cond c x y,l2,s2)
 | .block id a,l,s=>let (x,l1,s1):=AC.of dn a l s; (.block id x,l1,s1)
 | .loop a,l,s=>let (x,l1,s1):=AC.of dn a (l+1) s; (.loop (2*l) x,l1,s1)
 | .exit id,l,s=>(.exit id,l,s)
 | .ret,l,s=>(.ret,l,s)
 | .scope a,l,s=>let (x,l1,s1):=AC.of dn a l s; (.scope x,l1,s1)
 | c,l,s=>(.bad c,l,s)
theorem AC.H6 (dn:List Nat) (c:Code): ∀ l s,(AC.of dn c l s).1.code=c:=by
 induction c with
 | seq a b y9 y_=>
  intro l s
  simp only [AC.of]
  split <;> simp [AC.code,y9,y_]
 | cond c a b y9 y_=>intro l s; simp [AC.of,AC.code,y9,y_]
 | block id a ih=>intro l s; simp [AC.of,AC.code,ih]
 | loop a ih=>intro l s; simp [AC.of,AC.code,ih]
 | scope a ih=>intro l s; simp [AC.of,AC.code,ih]
 | _=>intro l s; simp [AC.of,AC.code]
section
variable (S:aK)
variable (T:gy S) (af:Nat→Nat)
def sW (a b:List Nat):Bool:=a.any fun x=>b.contains x
def meets (x y:List Nat×List Nat):Bool:=sW x.2 y.1||sW x.2 y.2||sW y.2 x.1
def lM (ops:Array Oper) (dS:Array Nat):List (Nat×Option (List Nat×List Nat))→Bool
 | []=>true
 | (j,fj)::r=>lM ops dS r&&r.all fun (i,fi)=>
  (dS.getD j 0).testBit i||(Oper.apart ops (ops.getD i default) (ops.getD j default)&&
   match fi,fj with
   | some a,some b=> !meets a b
   | _,_=>true)
def tY (ops:Array Oper):Bool:=ops.toList.zipIdx.all fun p=>p.1.after.toList.all fun e=> !Region.binds .any e||Nat.blt e.on p.2
def restrict (bx:Bx S.C) (ids:List Nat):Bx S.C:=fun i=>cond (ids.contains i) (bx i) none
def kV (bx:Bx S.C) (B:Nat) (fp:List Nat) (us:aA S.C):Bool:=
 us.all fun u=>fp.contains u.1&&(!(Nat.ble B u.1&&Nat.blt u.1 (B+16))||(bx u.1).isNone)
def A4 {R:Type} (B:Nat) (dst:Option Nat) (o:Op) (ty:Nat) (env:Env S.C) (k:Env S.C→Option R):Option R:=
 let fp:=au S T.vw B o env.tm env.bx
 (bZ S T af B o ty env.tm (restrict S env.bx fp.1)).run fun p=>
  cond (kV S env.bx B fp.2 p.2) (k (env.apply dst p.1 p.2)) none
def jT (cD n:Nat):Option Nat→Nat
 | _=>16*(100000+1000*cD+n)
def sU (ops:Array Oper) (n:Nat):Bool:=ops.any fun o=>match o.guard with
 | some (j,_)=>Nat.beq j n
 | none=>false
def oW {R:Type} (g:Bool) (dst:Option Nat) (env:Env S.C) (k:Env S.C→Option R):Option R:=
 match g with
 | false=>k env
 | true=>match dst with
  | none=>none
  | some t=>match env.tm t with
   | .d .bool x=>match (x:Bool) with
    | true=>k { env with tm:=ai env.tm t (.d .bool true) }
    | false=>k { env with tm:=ai env.tm t (.d .bool false) }
   | .pr _ i=> @ite _ _ i (k { env with tm:=ai env.tm t (.d .bool true) }) (k { env with tm:=ai env.tm t (.d .bool false) })
   | _=>none
def lC (ops:Array Oper) (o:Oper) (tm:Nat→V S.C):Option Bool:=
 match o.guard with
 | none=>some true
 | some (j,want)=>match (ops[j]?).bind (·.dst) with
  | none=>none
  | some t=>match tm t with
   | .d .bool x=>some (match (x:Bool) with | true=>want | false=> !want)
   | .skip=>some false
   | _=>none
noncomputable def agree {R:Type} (a b:Option R):Option R:=open Classical in if a=b then a else none
def s8 (o:Op) (tm:Nat→V S.C):Option (Nat×Bool):=match o with
 | .binOp op t x (.const (.slice none 0 0)) _=>match dM S t with
  | some _=>match aE S tm x with
   | some (.d (.sl _) l)=>match op with
    | .eql=>some (List.length l,false)
    | .neq=>some (List.length l,true)
    | _=>none
   | _=>none
  | none=>none
 | _=>none
def vo:Op→Bool
 | .defer _=>true
 | _=>false
def AR (tm:Nat→V S.C) (x y:Operand):Bool:=match x,y with
 | .const (.int k x), .const (.int k' y)=>decide (k=k')&&decide (x=y)
 | .tmp a, .tmp b=>match tm a,tm b with
  | .ptr b o, .ptr b' o'=>Nat.beq b b'&&Nat.beq o o'
  | _,_=>false
 | _,_=>false
def we (tm:Nat→V S.C):List Operand→List Operand→Bool
 | [],[]=>true
 | a::as,b::bs=>AR S tm a b&&we tm as bs
 | _,_=>false
def uJ (tm:Nat→V S.C) (dc:Option (Nat×List Operand)):Op→Bool
 | .defer ⟨.value (.func f),args,_⟩=>match dc with
  | some (g,ops)=>Nat.beq f g&&we S tm args.toList ops
  | none=>false
 | _=>false
noncomputable def iN {R:Type} (cD:Nat) (ops:Array Oper) (draw:Bool) (dS:Array Nat) (k:Env S.C→Option R):List Oper→Nat→List (Nat×Option (List Nat×List Nat))→Env S.C→Option R
 | [],_,cN,env=>cond (!draw||(lM ops dS cN&&tY ops)) (k env) none
 | o::r,n,cN,env=>match lC S ops o env.tm with
  | none=>none
  | some true=>match vo o.op with
   | true=>cond (draw||env.df|| !uJ S env.tm T.dc o.op) none (iN cD ops draw dS k r (n+1) ((n,none)::cN) { env.apply o.dst .skip [] with df:=true })
   | false=>match s8 S o.op env.tm with
   | some (m,v)=>cond draw none (@ite _ (m=0) (instDecidableEqNat m 0) (agree (oW S (sU ops n) o.dst (env.apply o.dst (.d .bool (Bool.not v)) []) fun e=>
    iN cD ops draw dS k r (n+1) ((n,some ([],[]))::cN) e) (oW S (sU ops n) o.dst (env.apply o.dst (.d .bool v) []) fun e=>
    iN cD ops draw dS k r (n+1) ((n,some ([],[]))::cN) e)) (oW S (sU ops n) o.dst (env.apply o.dst (.d .bool v) []) fun e=>
    iN cD ops draw dS k r (n+1) ((n,some ([],[]))::cN) e))
   | none=>A4 S T af (jT cD n o.dst) o.dst o.op o.type env fun e=>oW S (sU ops n) o.dst e fun e=>
    iN cD ops draw dS k r (n+1) ((n,some (au S T.vw (jT cD n o.dst) o.op env.tm env.bx))::cN) e
  | some false=>iN cD ops draw dS k r (n+1) ((n,none)::cN) (env.apply o.dst .skip [])
inductive Ex where
 | normal | exit (id:Nat) | ret
 deriving Inhabited
abbrev Kt (R:Type):=Ex→Env S.C→Option R
noncomputable def exec {R:Type} (L:Nat→Env S.C→Option R):AC→Env S.C→Kt S R→Option R
 | .skip,env,k=>k .normal env
 | .qy id ops draw,env,k=>iN S T af id ops draw (Region.before ops) (k .normal) ops.toList 0 [] env
 | .seq a b,env,k=>exec L a env fun e env'=>match e with
  | .normal=>exec L b env' k
  | e=>k e env'
 | .cut n a _,env,k=>exec L a env fun e env'=>match e with
  | .normal=>L n env'
  | e=>k e env'
 | .cond c a b,env,k=>match aE S env.tm c with
  | some (.d .bool x)=>match (x:Bool) with
   | true=>exec L a env k
   | false=>exec L b env k
  | some (.pr _ i)=> @ite _ _ i (exec L a env k) (exec L b env k)
  | _=>none
 | .block id a,env,k=>exec L a env fun e env'=>match e with
  | .exit j=>cond (Nat.beq j id) (k .normal env') (k (.exit j) env')
  | e=>k e env'
 | .loop n _,env,_=>L n env
 | .exit id,env,k=>k (.exit id) env
 | .ret,env,k=>k .ret env
 | .scope a,env,k=>exec L a env k
 | .bad _,_,_=>none
def td (sl:List Nat) (ks:List K) (env:Env S.C):Option (Ks S.C ks):=
 (dP S T.fs env.bx ks (sl.map env.tm)).bind fun a=>some a.1
def eP (id:Nat):(k:K)→k.den S.C→V S.C×aA S.C
 | .val (.data t),x=>(.d t x,[])
 | .val (.aP e),x=>(.aP id e x,[(id, .tail)])
 | .val (.az e),x=>(.az id,[(id, .arr e x)])
 | .val (.aF u),x=>(.az id,[(id, .aF u x none)])
 | .agg u cs,x=>let a:=aT S id cs x; (.agg u a.1,a.2.1)
 | .obj cs,x=>let a:=aT S (id+1) cs x; (.ptr id 0,(id, .cells a.1)::a.2.1)
 | .ro t,x=>(.cH t x,[])
 | .fn a r,g=>(.fv a r g,[])
 | .nil,_=>(.nil,[])
 | .err,x=>(.err x,[])
 | .aQ,x=>(.ptr id 0,[(id, .aQ (id+1)),(id+1, .buf x)])
 | .opt _,_=>(.undef,[])
 | .bO t cs,x=>let a0:=aT S (id+1) [.data t] x.1; let a:=aT S (id+2) cs x.2; (.split (id+1) id,(id, .cells a0.1)::(id+1, .cells a.1)::a.2.1)
 | .cj cs,x=>let a:=aT S (id+1) cs x; (.cj id (CK.bJ S cs),(id, .cells a.1)::a.2.1)
def fA:(ks:List K)→(sl:List Nat)→Ks S.C ks→Env S.C→Env S.C
 | [],_,_,env=>env
 | _::_,[],_,env=>env
 | k::r,t::sl,x,env=>
  let a:=eP S (16*t) k (Ks.head x)
  fA r sl (Ks.tail x) (env.apply (some t) a.1 a.2)
def Env.none (df:Bool):Env S.C:=⟨fun _=> .undef,fun _=>Option.none,df⟩
structure gw (R:Type) where
 sl:List Nat
 ks:List K
 fn:Ks S.C ks→Option R
 df:Bool
def Fv:Bool→Bool→Bool
 | true,b=>b
 | false,true=>false
 | false,false=>true
noncomputable def vp {R:Type} (env:Env S.C):List (gw S R)→Option R
 | []=>none
 | l::ls=>match cond (Fv l.df env.df) (td S T l.sl l.ks env) none with
  | some x=>l.fn x
  | none=>vp env ls
noncomputable def gC {R:Type} (ls:Nat→List (gw S R)) (n:Nat) (env:Env S.C):Option R:=vp S T env (ls n)
def jI:List Nat→List K→Bool
 | [],[]=>true
 | t::sl,k::ks=>Nat.ble (jt k) 16&& !sl.contains t&&(match k with | .opt _=>false | _=>true)&&jI sl ks
 | _,_=>false
noncomputable def VC {R:Type} (l0 l1:Nat→List (gw S R)):AC→Kt S R→List Prop
 | .seq a b,k=>VC l0 l1 a (fun e env'=>match e with
  | .normal=>exec S T af (gC S T l0) b env' k
  | e=>k e env')++VC l0 l1 b k
 | .cut n a b,k=>VC l0 l1 a (fun e env'=>match e with
  | .normal=>gC S T l0 n env'
  | e=>k e env')++VC l0 l1 b k++(l1 n).map fun l=> ∀ x,l.fn x=exec S T af (gC S T l0) b (fA S l.ks l.sl x (Env.none S l.df)) k
 | .cond _ a b,k=>VC l0 l1 a k++VC l0 l1 b k
 | .block id a,k=>VC l0 l1 a fun e env'=>match e with
  | .exit j=>cond (Nat.beq j id) (k .normal env') (k (.exit j) env')
  | e=>k e env'
 | .loop n a,k=>VC l0 l1 a (fun e env'=>match e with
  | .normal=>gC S T l0 n env'
  | e=>k e env')++(l1 n).map fun l=> ∀ x,l.fn x=exec S T af (gC S T l0) a (fA S l.ks l.sl x (Env.none S l.df)) (fun e env'=>match e with
   | .normal=>gC S T l0 n env'
   | e=>k e env')
 | .scope a,k=>VC l0 l1 a k
 | _,_=> []
def rX (ps:List K) (x:Ks S.C ps):Env S.C:=fA S ps (List.range' 0 ps.length) x (Env.none S false)
def lp (env:Env S.C):ResultVar→V S.C
 | .tmp t=>env.tm t
 | .cell a t=>match S.ty t,env.tm a with
  | some (.st u), .ptr b 0=>match env.bx b with
   | some (.cells vs)=>cond (vs.length == (S.F u).length) (.agg u vs) .undef
   | _=> .undef
  | some _, .ptr b 0=>match env.bx b with
   | some (.cells [v])=>v
   | _=> .undef
  | _,_=> .undef
def gS:List K→Nat→List Nat
 | [],_=> []
 | .obj _::r,i=>i::gS r (i+1)
 | .aQ::r,i=>i::gS r (i+1)
 | .bO _ _::r,i=>i::gS r (i+1)
 | _::r,i=>gS r (i+1)
def jW:Nat:=1440000
def jC (fn:Func) (ps rs:List K):Kt S (Ks S.C (rs++outs ps)):=fun e env=>match e with
 | .exit _=>none
 | _=>match env.df with
  | false=>(dP S T.fs env.bx (rs++outs ps) (fn.results.toList.map (lp S env)++(gS ps 0).map env.tm)).map (·.1)
  | true=>match T.dc with
   | some (f,ops)=>match ops.mapM (aE S env.tm) with
    | some vs=>(mM S ⟨T.de,T.fs,T.nl,T.vw,T.ow,none,[]⟩ jW env.bx f vs).run fun p=>cond (p.2.all fun u=> !(Nat.ble jW u.1&&Nat.blt u.1 (jW+16))||(env.bx u.1).isNone)
     ((dP S T.fs (ah env.bx p.2) (rs++outs ps) (fn.results.toList.map (lp S (env.apply none .undef p.2))++(gS ps 0).map env.tm)).map (·.1)) none
    | none=>none
   | none=>none
end
end Go.Sy
namespace Go.Sy
abbrev St:=Nat→Nat→Prop
def At (w:World) (s:St) (b o:Nat) (cs:List Value):Prop:=
 ∀ j v,cs[j]? =some v→w.cell? ⟨b,o+j,none⟩=some v∧s b (o+j)
def aV (w:World) (s:St) (w':World) (s':St):Prop:=
 ∀ b o,s b o→s' b o∧w'.cell? ⟨b,o,none⟩=w.cell? ⟨b,o,none⟩
theorem aV.refl (w:World) (s:St):aV w s w s:=fun _ _ h=>⟨h,rfl⟩
theorem aV.trans {w w' w'':World} {s s' s'':St} (h:aV w s w' s') (h':aV w' s' w'' s''):aV w s w'' s'':=
 fun b o hs=>⟨(h' b o (h b o hs).1).1,((h' b o (h b o hs).1).2).trans (h b o hs).2⟩
theorem At.later {w w':World} {s s':St} {b o:Nat} {cs:List Value} (h:At w s b o cs) (hl:aV w s w' s'):At w' s' b o cs:=
 fun j v hj=>⟨(hl _ _ (h j v hj).2).2.trans (h j v hj).1,(hl _ _ (h j v hj).2).1⟩
theorem At.left {w:World} {s:St} {b o:Nat} {cs ds:List Value} (h:At w s b o (cs++ds)):At w s b o cs:=fun j v hj=>
 h j v (by rw [List.getElem?_append_left (List.getElem?_eq_some_iff.1 hj).1]; exact hj)
theorem At.right {w:World} {s:St} {b o:Nat} {cs ds:List Value} (h:At w s b o (cs++ds)):At w s b (o+cs.length) ds:=fun j v hj=>by
 have :=h (cs.length+j) v (by rw [List.getElem?_append_right (by omega)]; simpa using hj)
 rw [← Nat.add_assoc] at this
 exact this
theorem At.append {w:World} {s:St} {b o:Nat} {cs ds:List Value} (h:At w s b o cs) (h':At w s b (o+cs.length) ds):At w s b o (cs++ds):=fun j v hj=>by
 by_cases hlt:j<cs.length
 · exact h j v (by rw [List.getElem?_append_left hlt] at hj; exact hj)
 · have :=h' (j - cs.length) v (by rw [List.getElem?_append_right (by omega)] at hj; exact hj)
   rw [show o+cs.length+(j - cs.length)=o+j from by omega] at this
   exact this
def isAgg:Value→Bool
 | .agg _=>true
 | _=>false
def aZ:Ty→Bool
 | .st _=>true
 | _=>false
def b6 (M:St):Prop:= ∀ b o, ¬ M b o
def gx (M A B:St):Prop:=(∀ b o,M b o↔A b o∨B b o)∧ ∀ b o,A b o→B b o→False
section
variable (P:Program) (S:aK)
def a_ (R:(t:Ty)→t.den S.C→List Value→Prop):(ts:List Ty)→ag S.C ts→List Value→Prop
 | [],_,cs=>cs= []
 | t::ts,x,cs=> ∃ c r,cs=c::r∧R t (ag.head x) [c]∧a_ R ts (ag.tail x) r
def qZ (R:(t:Ty)→t.den S.C→List Value→Prop) (w:World) (s:St) (e:Ty) (b o:Nat) (l:List (e.den S.C)):Prop:=
 ∀ (i:Nat) (x:e.den S.C),l[i]? =some x→ ∃ ds,ds.length=Ty.sz S e∧At w s b (o+i*Ty.sz S e) ds∧R e x ds
def av (w:World) (s:St):Nat→(t:Ty)→t.den S.C→List Value→Prop
 | 0,_,_,_=>False
 | n+1,t,x,cs=>match t,x with
  | .int k,x=>cs= [.int k x]
  | .bool,x=>cs= [.bool x]
  | .str,x=>cs= [.string ⟨List.toArray x⟩]
  | .pt,_=>cs= [.pointer none]
  | .sl e,l=> ∃ a cap,cs= [.slice a (List.length l) cap]∧List.length l≤cap∧
   (List.length l=0∨ ∃ b o,a=some ⟨b,o,none⟩∧qZ S (fun t x cs=>av w s n t x cs) w s e b o l)
  | .st u,x=>a_ S (fun t x cs=>av w s n t x cs) (S.F u) (S.ex u x) cs
def bT (w:World) (s:St) (t:Ty) (x:t.den S.C) (v:Value):Prop:=isAgg v=aZ t∧ ∃ n,av S w s n t x v.cells.toList
theorem a_.mono {R R':(t:Ty)→t.den S.C→List Value→Prop} (h: ∀ t x cs,R t x cs→R' t x cs):
 ∀ (ts:List Ty) (x:ag S.C ts) (cs:List Value),a_ S R ts x cs→a_ S R' ts x cs
 | [],_,_,hr=>hr
 | _::ts,_,_,⟨c,r,hc,h1,h2⟩=>⟨c,r,hc,h _ _ _ h1,a_.mono h ts _ _ h2⟩
theorem av.mono {w w':World} {s s':St} (hl:aV w s w' s'): ∀ {n m:Nat},n≤m→ ∀ {t:Ty} {x:t.den S.C} {cs:List Value},av S w s n t x cs→av S w' s' m t x cs
 | 0,_,_,_,_,_,h=>h.elim
 | n+1,0,hm,_,_,_,_=>by omega
 | n+1,m+1,hm,t,x,cs,h=>by
  have ih:=fun {t:Ty} {x:t.den S.C} {cs:List Value} =>av.mono hl (n:=n) (m:=m) (by omega) (t:=t) (x:=x) (cs:=cs)
  cases t with
  | int k=>exact h
  | bool=>exact h
  | str=>exact h
  | pt=>exact h
  | sl e=>
   obtain ⟨a,cap,hcs,hc,h⟩:=h
   refine ⟨a,cap,hcs,hc,h.imp id ?_⟩
   rintro ⟨b,o,ha,he⟩
   refine ⟨b,o,ha,fun i x hi=> ?_⟩
   obtain ⟨ds,hd,cu,hr⟩:=he i x hi
   exact ⟨ds,hd,cu.later hl,ih hr⟩
  | st u=>exact a_.mono S (fun t x cs h=>ih h) _ _ _ h
theorem bT.mono {w w':World} {s s':St} (hl:aV w s w' s') {t:Ty} {x:t.den S.C} {v:Value} (h:bT S w s t x v):bT S w' s' t x v:=
 ⟨h.1,h.2.imp fun _ hn=>av.mono S hl (Nat.le_refl _) hn⟩
theorem av.up {w:World} {s:St} {n m:Nat} (hm:n≤m) {t:Ty} {x:t.den S.C} {cs:List Value} (h:av S w s n t x cs):av S w s m t x cs:=
 av.mono S (aV.refl w s) hm h
theorem a_.length {R:(t:Ty)→t.den S.C→List Value→Prop} : ∀ (ts:List Ty) (x:ag S.C ts) (cs:List Value),a_ S R ts x cs→cs.length=ts.length
 | [],_,_,h=>by cases h; rfl
 | _::ts,_,_,⟨c,r,hc,_,h2⟩=>by subst hc; simp [a_.length ts _ _ h2]
theorem av.length {w:World} {s:St} {n:Nat} {t:Ty} {x:t.den S.C} {cs:List Value} (h:av S w s n t x cs):cs.length=Ty.sz S t:=by
 cases n with
 | zero=>exact h.elim
 | succ n=>cases t with
  | int k=>cases h; rfl
  | bool=>cases h; rfl
  | str=>cases h; rfl
  | pt=>cases h; rfl
  | sl e=>obtain ⟨a,cap,rfl,_⟩:=h; rfl
  | st u=>exact a_.length S _ _ _ h
theorem a_.flat {w w':World} {s s':St} {n m:Nat} : ∀ (ts:List Ty) (x:ag S.C ts) (cs:List Value),(ts.all fun | .sl _=>false | .st _=>false | _=>true)=true→
 a_ S (fun t x cs=>av S w s n t x cs) ts x cs→a_ S (fun t x cs=>av S w' s' (m+1) t x cs) ts x cs
 | [],_,_,_,h=>h
 | t::ts,x,cs,hf,⟨c,r,hc,h1,h2⟩=>by
  simp only [List.all_cons,Bool.and_eq_true] at hf
  refine ⟨c,r,hc, ?_,a_.flat ts _ _ hf.2 h2⟩
  cases n with
  | zero=>exact h1.elim
  | succ n=>cases t with
   | int k=>exact h1
   | bool=>exact h1
   | str=>exact h1
   | pt=>exact h1
   | sl e=>simp at hf
   | st u=>simp at hf
end
end Go.Sy
namespace Go.Sy
structure aO (w w':World) (T:St):Prop where
 os:w'.os=w.os
 tape:w'.tape=w.tape
 output:w'.output=w.output
 size:w.heap.size≤w'.heap.size
 same: ∀ b,b<w.heap.size→(∀ o, ¬ T b o)→w'.heap[b]? =w.heap[b]?
 cell: ∀ b o,b<w.heap.size→ ¬ T b o→w'.cell? ⟨b,o,none⟩=w.cell? ⟨b,o,none⟩
 some: ∀ b o,b<w.heap.size→(w.cell? ⟨b,o,none⟩).isSome=true→(w'.cell? ⟨b,o,none⟩).isSome=true
 lP: ∀ b o,b<w.heap.size→ ¬ T b o→w'.frozen? ⟨b,o,none⟩=w.frozen? ⟨b,o,none⟩
theorem aO.refl (w:World) (T:St):aO w w T:=⟨rfl,rfl,rfl,Nat.le_refl _,fun _ _ _=>rfl,fun _ _ _ _=>rfl,fun _ _ _ h=>h,fun _ _ _ _=>rfl⟩
theorem aO.mono {w w':World} {T T':St} (h:aO w w' T) (ht: ∀ b o,T b o→T' b o):aO w w' T':=
 ⟨h.os,h.tape,h.output,h.size,fun b hb hn=>h.same b hb fun o ho=>hn o (ht b o ho),fun b o hb hn=>h.cell b o hb fun ho=>hn (ht b o ho),h.some,fun b o hb hn=>h.lP b o hb fun ho=>hn (ht b o ho)⟩
theorem aO.trans {w w' w'':World} {T T' wP:St} (h:aO w w' T) (h':aO w' w'' T') (h1: ∀ b o,T b o→wP b o) (h2: ∀ b o,b<w.heap.size→T' b o→wP b o):aO w w'' wP:=
 ⟨h'.os.trans h.os,h'.tape.trans h.tape,h'.output.trans h.output,Nat.le_trans h.size h'.size,
  fun b hb hn=>(h'.same b (Nat.lt_of_lt_of_le hb h.size) fun o ho=>hn o (h2 b o hb ho)).trans (h.same b hb fun o ho=>hn o (h1 b o ho)),
  fun b o hb hn=>(h'.cell b o (Nat.lt_of_lt_of_le hb h.size) fun ho=>hn (h2 b o hb ho)).trans (h.cell b o hb fun ho=>hn (h1 b o ho)),
  fun b o hb hs=>h'.some b o (Nat.lt_of_lt_of_le hb h.size) (h.some b o hb hs),
  fun b o hb hn=>(h'.lP b o (Nat.lt_of_lt_of_le hb h.size) fun ho=>hn (h2 b o hb ho)).trans (h.lP b o hb fun ho=>hn (h1 b o ho))⟩
theorem cell_of_heap {w w':World} {b o:Nat} (h:w'.heap[b]? =w.heap[b]?):w'.cell? ⟨b,o,none⟩=w.cell? ⟨b,o,none⟩:=by
 simp [World.cell?,h]
theorem uQ {w w':World} {b o:Nat} (h:w'.heap[b]? =w.heap[b]?):w'.frozen? ⟨b,o,none⟩=w.frozen? ⟨b,o,none⟩:=by
 simp [World.frozen?,h]
theorem aO.drew (w:World) (T:St):aO w w.drew T:=⟨rfl,rfl,rfl,Nat.le_refl _,fun _ _ _=>rfl,fun _ _ _ _=>rfl,fun _ _ _ h=>h,fun _ _ _ _=>rfl⟩
theorem heap_alloc (w:World) (o:Obj) (b:Nat) (h:b<w.heap.size):(w.alloc o).heap[b]? =w.heap[b]? :=RowKit.Below.heap_alloc w o b h
theorem aO.alloc (w:World) (o:Obj) (T:St):aO w (w.alloc o) T:=
 ⟨rfl,rfl,rfl,by simp,fun b hb _=>heap_alloc w o b hb,fun b o' hb _=>cell_of_heap (heap_alloc w o b hb),fun b o' hb h=>by rw [cell_of_heap (heap_alloc w o b hb)]; exact h,fun b o' hb _=>uQ (heap_alloc w o b hb)⟩
theorem os_setCells (b:Nat): ∀ (vs:List Value) (o:Nat) (w:World),(w.setCells b o vs).os=w.os∧(w.setCells b o vs).tape=w.tape∧(w.setCells b o vs).output=w.output∧(w.setCells b o vs).heap.size=w.heap.size
 | [],_,_=>⟨rfl,rfl,rfl,rfl⟩
 | v::r,o,w=>by
  obtain ⟨h1,h2,h3,h4⟩:=os_setCells b r (o+1) (w.setCell ⟨b,o,none⟩ v)
  exact ⟨h1,h2,h3,h4.trans (by simp)⟩
theorem Dc (b:Nat): ∀ (vs:List Value) (o:Nat) (w:World) (k:Nat),k≠b→(w.setCells b o vs).heap[k]? =w.heap[k]?
 | [],_,_,_,_=>rfl
 | v::r,o,w,k,hk=>(Dc b r (o+1) (w.setCell ⟨b,o,none⟩ v) k hk).trans (RowKit.Below.heap_setCell w _ v k hk)
theorem MZ (w:World) (b o:Nat):w.setCells b o []=w:=rfl
theorem aO.setCells (w:World) (b o:Nat) (vs:List Value) (ht:w.there b o vs.length):aO w (w.setCells b o vs) (fun b' o'=>b'=b∧o≤o'∧o'<o+vs.length):=by
 obtain ⟨h1,h2,h3,h4⟩:=os_setCells b vs o w
 refine ⟨h1,h2,h3,by omega,fun k hk hn=> ?_,fun k o' hk hn=> ?_,fun k o' hk hs=> ?_,fun k o' hk _=> ?_⟩
 · by_cases e:k=b
   · subst e
     cases vs with
     | nil=>rfl
     | cons v r=>exact absurd ⟨rfl,Nat.le_refl _,by simp⟩ (hn o)
   · exact Dc b vs o w k e
 · exact World.cell?_setCells_out b vs o w ⟨k,o',none⟩ fun hb _=>by
    have hb:k=b:=hb
    by_cases e:o≤o'∧o'<o+vs.length
    · exact absurd ⟨hb,e⟩ hn
    · show o'<o∨o+vs.length≤o'
      omega
 · by_cases e:k=b∧o≤o'∧o'<o+vs.length
   · obtain ⟨rfl,e1,e2⟩:=e
     have :=World.cell?_setCells_in k vs o w (fun i hi=>(ht i hi).1) (o' - o) (by omega)
     rw [show o+(o' - o)=o' from by omega] at this
     rw [this]; rfl
   · rw [World.cell?_setCells_out b vs o w ⟨k,o',none⟩ fun hb _=>by
      have hb:k=b:=hb
      show o'<o∨o+vs.length≤o'
      omega]
     exact hs
 · exact World.frozen?_setCells ..
structure Loc where
 b:Nat
 o:Nat
 n:Nat
 cap:Nat
 nil:Bool
 ext:St:=fun _ _=>False   -- what else is its own
def Loc.bI (L:Loc):St:=fun b o=>b=L.b∧L.o≤o∧o<L.o+L.n
def Loc.au (L:Loc):St:=fun b o=>L.bI b o∨L.ext b o
def Loc.plain (L:Loc):Loc:=⟨L.b,L.o,L.n,L.cap,L.nil,fun _ _=>False⟩
def Loc.with (L:Loc) (E:St):Loc:=⟨L.b,L.o,L.n,L.cap,L.nil,E⟩
theorem Loc.tc {L L':Loc} (e:L'.plain=L.plain):L'.b=L.b∧L'.o=L.o:=by cases L; cases L'; cases e; exact ⟨rfl,rfl⟩
theorem Loc.zN (L:Loc) (b o:Nat):L.plain.au b o↔L.bI b o:=⟨fun h=>h.elim id (fun h=>h.elim), .inl⟩
theorem Loc.ia {L:Loc} (h:b6 L.ext) {b o:Nat} (hf:L.au b o):L.bI b o:=hf.elim id fun h'=>(h b o h').elim
def Bq (L:Loc) (a:Option Addr) (len cap sz:Nat):Prop:=
 (a=none∧cap=0∧L.n=0)∨ ∃ b o,a=some ⟨b,o,none⟩∧L.n=(cap - len)*sz∧(len<cap→L.b=b∧L.o=o+len*sz)
structure gJ (L:Loc) (a:Option Addr) (len cap sz:Nat):Prop where
 addr:a=if L.nil then none else some ⟨L.b,L.o,none⟩
 dU:cap=L.cap
 cells:L.n=L.cap*sz
 isNil:L.nil=true→L.cap=0
 fits:len≤cap
theorem gJ.plain {L L':Loc} {a:Option Addr} {len cap sz:Nat} (h:gJ L a len cap sz) (e:L'.plain=L.plain):gJ L' a len cap sz:=by
 cases L; cases L'; cases e; exact ⟨h.addr,h.dU,h.cells,h.isNil,h.fits⟩
def iz (P:Program) (f:Nat):Prop:= ∃ fn,P.funcs[f]? =some fn∧(fn.name == "runtime.NumGoroutine")=false∧fn.body.isNone=false
def ja:List Value→Value
 | [v]=>v
 | vs=> .tuple vs.toArray
def grown (s:St) (w w':World):St:=fun b o=>s b o∨(w.heap.size≤b∧b<w'.heap.size)
section
variable (P:Program) (S:aK)
def fE (w:World) (s:St):(ts:List Ty)→ag S.C ts→List Value→Prop
 | [],_,vs=>vs= []
 | t::ts,x,vs=> ∃ v r,vs=v::r∧bT S w s t (ag.head x) v∧fE w s ts (ag.tail x) r
theorem fE.mono {w w':World} {s s':St} (hl:aV w s w' s'): ∀ (ts:List Ty) (x:ag S.C ts) (vs:List Value),fE S w s ts x vs→fE S w' s' ts x vs
 | [],_,_,h=>h
 | _::ts,_,_,⟨v,r,h1,h2,h3⟩=>⟨v,r,h1,h2.mono S hl,fE.mono hl ts _ _ h3⟩
def jf (S:aK) (w:World) (M:St):Prop:=(∀ g ∈ S.gl,g.1.1<w.heap.size∧ ¬ M g.1.1 g.1.2∧ ∃ v,w.cell? ⟨g.1.1,g.1.2,none⟩=some v∧g.2 v)∧
 ∀ g ∈ S.gb,g.1<w.heap.size∧(∀ o, ¬ M g.1 o)∧ ∃ ob,w.heap[g.1]? =some ob∧g.2 ob
theorem jf.at {S:aK} {w0 w:World} {M0 M:St} (hG:jf S w0 M0) (hc:aO w0 w M0) (hM: ∀ b o,M b o→w0.heap.size≤b∨M0 b o):jf S w M:=
 ⟨fun g hg=>by
  obtain ⟨g1,g2,v,g3,g4⟩:=hG.1 g hg
  refine ⟨Nat.lt_of_lt_of_le g1 hc.size,fun hm=> ?_,v,(hc.cell g.1.1 g.1.2 g1 g2).trans g3,g4⟩
  rcases hM _ _ hm with h1 | h1
  · exact absurd g1 (Nat.not_lt.2 h1)
  · exact g2 h1,fun g hg=>by
  obtain ⟨g1,g2,v,g3,g4⟩:=hG.2 g hg
  refine ⟨Nat.lt_of_lt_of_le g1 hc.size,fun o hm=> ?_,v,(hc.same g.1 g1 g2).trans g3,g4⟩
  rcases hM _ _ hm with h1 | h1
  · exact absurd g1 (Nat.not_lt.2 h1)
  · exact g2 o h1⟩
def Bm (w:World):Prop:=jf S w (fun _ _=>False)
def kE (w:World) (s:St) (a r:List Ty) (g:ag S.C a→Option (ag S.C r)) (v:Value):Prop:=
 ∃ f first cap,v= .func (.func f) first cap∧iz P f∧ ∀ w1 s1,aV w s w1 s1→Bm S w1→ ∀ x args y,fE S w1 s1 a x args→g x=some y→
  Calls P f (first++args.toArray++cap) w1 fun e w'=> ∃ us,e= .returned (ja us)∧aO w1 w' (fun _ _=>False)∧fE S w' (grown s1 w1 w') r y us
theorem kE.mono {w w':World} {s s':St} (hl:aV w s w' s') {a r:List Ty} {g:ag S.C a→Option (ag S.C r)} {v:Value} (h:kE P S w s a r g v):kE P S w' s' a r g v:=by
 obtain ⟨f,first,cap,hv,hf,h⟩:=h
 exact ⟨f,first,cap,hv,hf,fun w1 s1 hl1=>h w1 s1 (hl.trans hl1)⟩
def kF (w:World) (s:St) (t:Ty) (x:t.den S.C) (v:Value):Prop:=
 ∃ b o ds,v= .pointer (some ⟨b,o,none⟩)∧At w s b o ds∧ds.length=Ty.sz S t∧ ∃ n,av S w s n t x ds
theorem kF.mono {w w':World} {s s':St} (hl:aV w s w' s') {t:Ty} {x:t.den S.C} {v:Value} (h:kF S w s t x v):kF S w' s' t x v:=by
 obtain ⟨b,o,ds,hv,cu,hd,n,hr⟩:=h
 exact ⟨b,o,ds,hv,cu.later hl,hd,n,hr.mono S hl (Nat.le_refl _)⟩
def lJ (w:World) (s M:St) (e:Ty) (l:List (e.den S.C)) (cs:List Value):Prop:=
 ∃ a cap L,cs= [.slice a l.length cap]∧gJ L a l.length cap (Ty.sz S e)∧w.there L.b L.o L.n∧(∀ b o,M b o↔L.bI b o)∧
  ∀ (i:Nat) (x:e.den S.C),l[i]? =some x→ ∃ ds,ds.length=Ty.sz S e∧w.rangeAt L.b (L.o+i*Ty.sz S e) ds∧ ∃ n,av S w s n e x ds
def pF (w:World) (s M:St) (e:Ty) (l:List (e.den S.C)) (cs:List Value):Prop:=
 ∃ a cap L,cs= [.slice a l.length cap]∧(∃ n,av S w s n (.sl e) l cs)∧Bq L a l.length cap (Ty.sz S e)∧w.there L.b L.o L.n∧ ∀ b o,M b o↔L.bI b o
def GD (R:(u:Nat)→List (S.C u)→St→List Value→Prop) (w:World) (s M:St):(c:CK)→c.den S.C→List Value→Prop
 | .data t,x,cs=>b6 M∧ ∃ n,av S w s n t x cs
 | .aP e,l,cs=>pF S w s M e l cs
 | .az e,l,cs=>lJ S w s M e l cs
 | .aF u,l,cs=>R u l M cs
def b9 (R:(u:Nat)→List (S.C u)→St→List Value→Prop) (w:World) (s:St):(M:St)→(cs:List CK)→aJ S.C cs→List Value→Prop
 | M,[],_,vs=>b6 M∧vs= []
 | M,c::cs,x,vs=> ∃ M1 M2 nC qR,gx M M1 M2∧vs=nC++qR∧nC.length=CK.sz S c∧GD S R w s M1 c (aJ.head x) nC∧b9 R w s M2 cs (aJ.tail x) qR
def ep (R:(u:Nat)→List (S.C u)→St→List Value→Prop) (w:World) (s:St) (L:Loc) (Ms:Nat→St) (u:Nat) (l:List (S.C u)) (h:Option Int):Prop:=
 (∀ k:Nat,(l.length≤k∨h=some (k:Int))→b6 (Ms k))∧(∀ k b o,Ms k b o→ ¬ L.bI b o)∧(∀ j k,j≠k→ ∀ b o,Ms j b o→Ms k b o→False)∧
  ∀ (k:Nat) (x:S.C u),l[k]? =some x→h≠some (k:Int)→ ∃ y ds,partsOf S u x=some y∧ds.length=Ty.sz S (.st u)∧w.rangeAt L.b (L.o+k*Ty.sz S (.st u)) ds∧b9 S R w s (Ms k) (S.own u) y ds
def bX (w:World) (s:St):Nat→(u:Nat)→List (S.C u)→St→List Value→Prop
 | 0,_,_,_,_=>False
 | n+1,u,l,M,cs=> ∃ a cap L Ms,cs= [.slice a l.length cap]∧gJ L a l.length cap (Ty.sz S (.st u))∧w.there L.b L.o L.n∧(∀ b o,M b o↔L.bI b o∨ ∃ k,Ms k b o)∧
  ep S (fun u l M cs=>bX w s n u l M cs) w s L Ms u l none
def wG:Bool→Value→Prop
 | true,v=>v= .nilIface
 | false,v=> ∃ t p,v= .iface t p
def bl (w:World) (s:St) (μ:Nat→Loc) (bx:Bx S.C):V S.C→Value→Prop
 | .undef,_=>True
 | .skip,v=>v=Go.undef
 | .d t x,v=>bT S w s t x v
 | .pr p i,v=>v= .bool (@decide p i)
 | .aP b e l,v=>bT S w s (.sl e) l v∧(bx b=some .tail→ ∃ a cap,v= .slice a l.length cap∧Bq (μ b) a l.length cap (Ty.sz S e))
 | .az b,v=>((∃ a n c,v= .slice a n c)∧ ∀ u (l:List (S.C u)) h,bx b=some (.aF u l h)→ ∃ a cap,v= .slice a l.length cap∧gJ (μ b) a l.length cap (Ty.sz S (.st u)))∧ ∀ e (l:List (e.den S.C)),(bx b=some (.arr e l)∨bx b=some (.bn e l))→ ∃ a cap,v= .slice a l.length cap∧gJ (μ b) a l.length cap (Ty.sz S e)
 | .pre b n,v=>(∃ a n c,v= .slice a n c)∧ ∀ e (l:List (e.den S.C)),bx b=some (.arr e l)→0≤n∧n.toNat≤l.length∧ ∃ a cap,v= .slice a n.toNat cap∧gJ (μ b) a n.toNat cap (Ty.sz S e)
 | .win b i n,v=>(∃ a n c,v= .slice a n c)∧ ∀ e (l:List (e.den S.C)),bx b=some (.arr e l)→0≤i∧0≤n∧i.toNat+n.toNat≤l.length∧ ∃ a cap,v= .slice a n.toNat cap∧n.toNat≤cap∧(n.toNat=0∨a=some ⟨(μ b).b,(μ b).o+i.toNat*Ty.sz S e,none⟩)
 | .ptr b off,v=>v= .pointer (some ⟨(μ b).b,(μ b).o+off,none⟩)
 | .split b c,v=> ∃ k q,v= .pointer (some ⟨k,q,none⟩)∧At w s k q [.pointer (some ⟨(μ c).b,(μ c).o,none⟩)]∧(μ b).b=k∧(μ b).o=q+1
 | .i_ c,v=> ∃ k q,v= .pointer (some ⟨k,q,none⟩)∧At w s k q [.pointer (some ⟨(μ c).b,(μ c).o,none⟩)]
 | .cj b n,v=>v= .slice (some ⟨(μ b).b,(μ b).o,none⟩) n n
 | .cG b i off,v=>((∃ p,v= .pointer (some p))∧ ∀ u (l:List (S.C u)) h,bx b=some (.aF u l h)→0≤i∧i.toNat<l.length∧v= .pointer (some ⟨(μ b).b,(μ b).o+i.toNat*Ty.sz S (.st u)+off,none⟩))∧ ∀ e (l:List (e.den S.C)),(bx b=some (.arr e l)∨bx b=some (.bn e l))→0≤i∧i.toNat<l.length∧v= .pointer (some ⟨(μ b).b,(μ b).o+i.toNat*Ty.sz S e+off,none⟩)
 | .cH t x,v=>kF S w s t x v
 | .nil,v=>v= .pointer none
 | .err b,v=>wG b v
 | .b8,v=>v= .slice none 0 0
 | .fv a r g,v=>kE P S w s a r g v
 | .fe _ _,_=>False
 | .agg _ _,_=>False
 | .gG _,_=>False
def aB (w:World) (s:St) (μ:Nat→Loc) (bx:Bx S.C):List (V S.C)→List Value→Prop
 | [],cs=>cs= []
 | v::vs,cs=> ∃ c r,cs=c::r∧bl P S w s μ bx v c∧aB w s μ bx vs r
def RV (w:World) (s:St) (μ:Nat→Loc) (bx:Bx S.C):V S.C→Value→Prop
 | .agg u vs,v=> ∃ cs:Array Value,v= .agg cs∧vs.length=(S.F u).length∧vs.all (bG S)=true∧aB P S w s μ bx vs cs.toList
 | .gG vs,v=> ∃ us,v= .tuple us∧aB P S w s μ bx vs us.toList
 | .fe f vs,v=> ∃ cs:Array Value,v= .func (.func f) #[] cs∧aB P S w s μ bx vs cs.toList
 | v,c=>bl P S w s μ bx v c
def live (bx:Bx S.C) (i:Nat):Prop:=match bx i with
 | some (.cells _) | some (.arr _ _) | some (.aF _ _ _) | some .tail | some (.aQ _) | some (.buf _)=>True
 | _=>False
def e_ (L:Loc) (n:Nat):Value:= .slice (if L.nil then none else some ⟨L.b,0,none⟩) n L.cap
def qW (w:World) (b:Nat) (v:Value):Prop:=
 ∃ T e p,S.bt=some (T,e)∧w.heap[b]? =some (.cells #[p,v] T (0,0))∧(p= .pointer none∨p= .pointer (some ⟨b,0,none⟩))
def kD (w:World) (L:Loc) (l:List UInt8):Prop:=
 L.o=0∧L.n=L.cap∧(L.nil=true→L.cap=0)∧ ∃ T e,S.bt=some (T,e)∧w.ownsRowF 0 e 1 (e_ L l.length) l.length (Lib.byteCells l)
def kU:Option (b7 S.C)→Prop
 | some (.aF _ _ _)=>True
 | _=>False
def RB (w:World) (s:St) (μ:Nat→Loc) (bx:Bx S.C) (L:Loc):b7 S.C→Prop
 | .cells vs=>vs.all (bG S)=true∧L.n=vs.length∧w.there L.b L.o L.n∧ ∃ cs,w.rangeAt L.b L.o cs∧aB P S w s μ bx vs cs
 | .bH vs=>vs.all (bG S)=true∧ ∃ cs,At w s L.b L.o cs∧aB P S w s μ bx vs cs
 | .arr e l=>L.n=L.cap*Ty.sz S e∧(L.nil=true→L.cap=0)∧l.length≤L.cap∧w.there L.b L.o L.n∧
  ∀ i x,l[i]? =some x→ ∃ ds,ds.length=Ty.sz S e∧w.rangeAt L.b (L.o+i*Ty.sz S e) ds∧ ∃ n,av S w s n e x ds
 | .bn e l=>(L.nil=true→L.cap=0)∧l.length≤L.cap∧
  ∀ i x,l[i]? =some x→ ∃ ds,ds.length=Ty.sz S e∧At w s L.b (L.o+i*Ty.sz S e) ds∧ ∃ n,av S w s n e x ds
 | .aF u l h=>L.n=L.cap*Ty.sz S (.st u)∧(L.nil=true→L.cap=0)∧l.length≤L.cap∧w.there L.b L.o L.n∧
  ∃ n Ms,(∀ b o,L.ext b o↔ ∃ k,Ms k b o)∧ep S (fun u l M cs=>bX S w s n u l M cs) w s L Ms u l h
 | .tail=>w.there L.b L.o L.n
 | .dead=>True
 | .aQ j=>L.o=0∧L.n=2∧bx j≠none∧ ∃ v,qW S w L.b v∧ ∀ l,bx j=some (.buf l)→v=e_ (μ j) l.length
 | .buf l=>kD S w L l
end
end Go.Sy
namespace Go.Sy
def Kept (w w':World) (M:St):Prop:= ∀ b o,M b o→w'.cell? ⟨b,o,none⟩=w.cell? ⟨b,o,none⟩∧w'.frozen? ⟨b,o,none⟩=w.frozen? ⟨b,o,none⟩
theorem Kept.refl (w:World) (M:St):Kept w w M:=fun _ _ _=>⟨rfl,rfl⟩
theorem Kept.sub {w w':World} {M M':St} (h:Kept w w' M) (hs: ∀ b o,M' b o→M b o):Kept w w' M':=fun b o hm=>h b o (hs b o hm)
theorem Kept.there {w w':World} {M:St} (h:Kept w w' M) {b o n:Nat} (ht:w.there b o n) (hin: ∀ o',o≤o'→o'<o+n→M b o'):w'.there b o n:=fun j hj=>by
 obtain ⟨c1,c2⟩:=h b (o+j) (hin _ (by omega) (by omega))
 rw [c1,c2]; exact ht j hj
theorem Kept.range {w w':World} {M:St} (h:Kept w w' M) {b o:Nat} {cs:List Value} (ht:w.rangeAt b o cs) (hin: ∀ o',o≤o'→o'<o+cs.length→M b o'):w'.rangeAt b o cs:=fun j v hj=>by
 have hjl:=(List.getElem?_eq_some_iff.1 hj).1
 rw [(h b (o+j) (hin _ (by omega) (by omega))).1]
 exact ht j v hj
theorem kK {L:Loc} {len sz i j:Nat} (hn:L.n=L.cap*sz) (hl:len≤L.cap) (hi:i<len) (hj:j<sz):L.bI L.b (L.o+i*sz+j):=by
 have :(i+1)*sz≤L.cap*sz:=Nat.mul_le_mul_right _ (by omega)
 rw [Nat.add_mul,Nat.one_mul] at this
 exact ⟨rfl,by omega,by omega⟩
theorem BM {α:Type} (l:List α) (Q:Nat→Nat→α→Prop) (up: ∀ i x n m,n≤m→Q n i x→Q m i x) (h: ∀ i x,l[i]? =some x→ ∃ n,Q n i x): ∃ n, ∀ i x,l[i]? =some x→Q n i x:=by
 have : ∀ m,m≤l.length→ ∃ n, ∀ i x,i<m→l[i]? =some x→Q n i x:=by
  intro m
  induction m with
  | zero=>exact fun _=>⟨0,fun i x hi=>by omega⟩
  | succ m ih=>
   intro hm
   obtain ⟨n,hn⟩:=ih (by omega)
   obtain ⟨n',h3⟩:=h m l[m] (by simp)
   refine ⟨max n n',fun i x hi hx=> ?_⟩
   by_cases e:i=m
   · subst e
     have :x=l[i]:=by simpa [List.getElem?_eq_getElem (show i<l.length by omega)] using hx.symm
     subst this
     exact up _ _ _ _ (by omega) h3
   · exact up _ _ _ _ (by omega) (hn i x (by omega) hx)
 obtain ⟨n,hn⟩:=this l.length (Nat.le_refl _)
 exact ⟨n,fun i x hx=>hn i x (List.getElem?_eq_some_iff.1 hx).1 hx⟩
section
variable {S:aK}
theorem HU {C:Nat→Type} (c:CK) (x:(fU c).den C):lO c (pO c x)=x:=by cases c <;> rfl
theorem HT {C:Nat→Type} (c:CK) (x:c.den C):pO c (lO c x)=x:=by cases c <;> rfl
theorem HS {C:Nat→Type} {c:CK} {cs:List CK} (x:c.den C) (y:aJ C cs):aJ.head (aJ.cons x y)=x:=by cases cs <;> rfl
theorem HV {C:Nat→Type} {c:CK} {cs:List CK} (x:c.den C) (y:aJ C cs):aJ.tail (aJ.cons x y)=y:=by cases cs <;> rfl
theorem FO {C:Nat→Type} {t:Ty} {ts:List Ty} (x:t.den C) (y:ag C ts):ag.head (ag.cons x y)=x:=by cases ts <;> rfl
theorem FP {C:Nat→Type} {t:Ty} {ts:List Ty} (x:t.den C) (y:ag C ts):ag.tail (ag.cons x y)=y:=by cases ts <;> rfl
theorem HW {C:Nat→Type} {c:CK} {cs:List CK} (x:aJ C (c::cs)):aJ.cons (aJ.head x) (aJ.tail x)=x:=by cases cs <;> rfl
theorem Nv {C:Nat→Type} {t:Ty} {ts:List Ty} (x:ag C (t::ts)):ag.cons (ag.head x) (ag.tail x)=x:=by cases ts <;> rfl
theorem Gb {C:Nat→Type} : ∀ (cs:List CK) (x:ag C (cs.map fU)),jN cs (oZ cs x)=x
 | [],_=>rfl
 | c::cs,x=>by
  show ag.cons (lO c (aJ.head (aJ.cons (pO c (ag.head x)) (oZ cs (ag.tail x))))) (jN cs (aJ.tail (aJ.cons (pO c (ag.head x)) (oZ cs (ag.tail x)))))=x
  rw [HS,HV,HU,Gb cs]
  exact Nv x
theorem F_ {C:Nat→Type} : ∀ (cs:List CK) (x:aJ C cs),oZ cs (jN cs x)=x
 | [],_=>rfl
 | c::cs,x=>by
  show aJ.cons (pO c (ag.head (ag.cons (lO c (aJ.head x)) (jN cs (aJ.tail x))))) (oZ cs (ag.tail (ag.cons (lO c (aJ.head x)) (jN cs (aJ.tail x)))))=x
  rw [FO,FP,HT,F_ cs]
  exact HW x
theorem Ed (kL: ∀ u y,S.ex u (S.im u y)=y) {u:Nat} {y:aJ S.C (S.own u)} {x:S.C u} (h:Be S u y=some x):partsOf S u x=some y:=by
 unfold Be at h
 split at h
 · rename_i e
   cases h
   unfold partsOf
   rw [dif_pos e.symm,kL]
   have key: ∀ (ts:List Ty) (e:(S.own u).map fU=ts) (e':ts=(S.own u).map fU),e'▸(e▸jN (S.own u) y:ag S.C ts)=jN (S.own u) y:=by
    intro ts e e'; subst e; rfl
   rw [key _ e e.symm,F_]
 · cases h
variable {R R':(u:Nat)→List (S.C u)→St→List Value→Prop}
theorem pF.step {w w':World} {s s' M:St} (hl:aV w s w' s') (hk:Kept w w' M) {e:Ty} {l:List (e.den S.C)} {cs:List Value} (h:pF S w s M e l cs):pF S w' s' M e l cs:=by
 obtain ⟨a,cap,L,h1,⟨n,h2⟩,h3,h4,h5⟩:=h
 exact ⟨a,cap,L,h1,⟨n,h2.mono S hl (Nat.le_refl _)⟩,h3,hk.there h4 (fun o' q1 q2=>(h5 _ _).2 ⟨rfl,q1,q2⟩),h5⟩
theorem lJ.step {w w':World} {s s' M:St} (hl:aV w s w' s') (hk:Kept w w' M) {e:Ty} {l:List (e.den S.C)} {cs:List Value} (h:lJ S w s M e l cs):lJ S w' s' M e l cs:=by
 obtain ⟨a,cap,L,h1,h2,h3,h4,h5⟩:=h
 refine ⟨a,cap,L,h1,h2,hk.there h3 (fun o' q1 q2=>(h4 _ _).2 ⟨rfl,q1,q2⟩),h4,fun i x hi=> ?_⟩
 obtain ⟨ds,d1,d2,n,d3⟩:=h5 i x hi
 refine ⟨ds,d1,hk.range d2 (fun o' q1 q2=> ?_),n,d3.mono S hl (Nat.le_refl _)⟩
 have :=kK h2.cells (by rw [← h2.dU]; exact h2.fits) (List.getElem?_eq_some_iff.1 hi).1 (j:=o' - (L.o+i*Ty.sz S e)) (by omega)
 rw [show L.o+i*Ty.sz S e+(o' - (L.o+i*Ty.sz S e))=o' from by omega] at this
 exact (h4 _ _).2 this
theorem b9.step {w w':World} {s s':St} (hl:aV w s w' s') (hR: ∀ u l M cs,Kept w w' M→R u l M cs→R' u l M cs): ∀ {cs:List CK} {M:St} {y:aJ S.C cs} {vs:List Value},Kept w w' M→b9 S R w s M cs y vs→b9 S R' w' s' M cs y vs
 | [],_,_,_,_,h=>h
 | c::cs,M,y,vs,hk,⟨M1,M2,v1,v2,hM,hv,hlen,h1,h2⟩=>by
  refine ⟨M1,M2,v1,v2,hM,hv,hlen, ?_,b9.step hl hR (hk.sub fun b o q=>(hM.1 b o).2 (.inr q)) h2⟩
  have hk1:=hk.sub fun b o q=>(hM.1 b o).2 (.inl q)
  cases c with
  | data t=>exact ⟨h1.1,h1.2.imp fun _ q=>q.mono S hl (Nat.le_refl _)⟩
  | aP e=>exact pF.step hl hk1 h1
  | az e=>exact lJ.step hl hk1 h1
  | aF u=>exact hR _ _ _ _ hk1 h1
theorem ep.step {w w':World} {s s':St} (hl:aV w s w' s') (hR: ∀ u l M cs,Kept w w' M→R u l M cs→R' u l M cs) {L:Loc} {Ms:Nat→St} {u:Nat} {l:List (S.C u)} {h:Option Int}
 (hk:Kept w w' (fun b o=>L.bI b o∨ ∃ k,Ms k b o)) (hn:L.n=L.cap*Ty.sz S (.st u)) (hlen:l.length≤L.cap) (he:ep S R w s L Ms u l h):ep S R' w' s' L Ms u l h:=by
 obtain ⟨e1,e2,e3,e4⟩:=he
 refine ⟨e1,e2,e3,fun k x hx hh=> ?_⟩
 obtain ⟨y,ds,d1,d2,d3,d4⟩:=e4 k x hx hh
 refine ⟨y,ds,d1,d2,hk.range d3 (fun o' q1 q2=> .inl ?_),b9.step hl hR (hk.sub fun b o q=> .inr ⟨k,q⟩) d4⟩
 have :=kK hn hlen (List.getElem?_eq_some_iff.1 hx).1 (j:=o' - (L.o+k*Ty.sz S (.st u))) (by omega)
 rw [show L.o+k*Ty.sz S (.st u)+(o' - (L.o+k*Ty.sz S (.st u)))=o' from by omega] at this
 exact this
theorem bX.step {w w':World} {s s':St} (hl:aV w s w' s'): ∀ {n m:Nat},n≤m→ ∀ {u:Nat} {l:List (S.C u)} {M:St} {cs:List Value},Kept w w' M→bX S w s n u l M cs→bX S w' s' m u l M cs
 | 0,_,_,_,_,_,_,_,h=>h.elim
 | n+1,0,hm,_,_,_,_,_,_=>by omega
 | n+1,m+1,hm,u,l,M,cs,hk,⟨a,cap,L,Ms,h1,h2,h3,h4,h5⟩=>
  ⟨a,cap,L,Ms,h1,h2,hk.there h3 (fun o' q1 q2=>(h4 _ _).2 (.inl ⟨rfl,q1,q2⟩)),h4,
   ep.step hl (fun u l M cs q=>bX.step hl (n:=n) (m:=m) (by omega) q) (hk.sub fun b o q=>(h4 b o).2 q) h2.cells (by rw [← h2.dU]; exact h2.fits) h5⟩
theorem tU {w:World} {b o n o':Nat} (h:w.there b o n) (h1:o≤o') (h2:o'<o+n):b<w.heap.size∧(w.cell? ⟨b,o',none⟩).isSome=true:=by
 have :=(h (o' - o) (by omega)).1
 rw [show o+(o' - o)=o' from by omega] at this
 obtain ⟨v,hv⟩:=Option.isSome_iff_exists.1 this
 exact ⟨World.block_lt_of_cell? w _ hv,this⟩
theorem b9.valid {w:World} {s:St} (hR: ∀ u l M cs,R u l M cs→ ∀ b o,M b o→b<w.heap.size∧(w.cell? ⟨b,o,none⟩).isSome=true): ∀ {cs:List CK} {M:St} {y:aJ S.C cs} {vs:List Value},b9 S R w s M cs y vs→ ∀ b o,M b o→b<w.heap.size∧(w.cell? ⟨b,o,none⟩).isSome=true
 | [],_,_,_,h,b,o,hm=>(h.1 b o hm).elim
 | c::cs,M,y,vs,⟨M1,M2,v1,v2,hM,hv,hlen,h1,h2⟩,b,o,hm=>by
  rcases (hM.1 b o).1 hm with hm | hm
  · cases c with
    | data t=>exact (h1.1 b o hm).elim
    | aP e=>
     obtain ⟨a,cap,L,_,_,_,h4,h5⟩:=h1
     obtain ⟨rfl,q1,q2⟩:=(h5 b o).1 hm
     exact tU h4 q1 q2
    | az e=>
     obtain ⟨a,cap,L,_,_,h4,h5,_⟩:=h1
     obtain ⟨rfl,q1,q2⟩:=(h5 b o).1 hm
     exact tU h4 q1 q2
    | aF u=>exact hR _ _ _ _ h1 b o hm
  · exact b9.valid hR h2 b o hm
theorem ep.valid {w:World} {s:St} (hR: ∀ u l M cs,R u l M cs→ ∀ b o,M b o→b<w.heap.size∧(w.cell? ⟨b,o,none⟩).isSome=true) {L:Loc} {Ms:Nat→St} {u:Nat} {l:List (S.C u)} {h:Option Int} (he:ep S R w s L Ms u l h) {k b o:Nat} (hm:Ms k b o):b<w.heap.size∧(w.cell? ⟨b,o,none⟩).isSome=true:=by
 obtain ⟨e1,e2,e3,e4⟩:=he
 by_cases hk:l.length≤k∨h=some (k:Int)
 · exact (e1 k hk b o hm).elim
 · have hlt:k<l.length:=by
    rcases Nat.lt_or_ge k l.length with q | q
    · exact q
    · exact absurd (.inl q) hk
   obtain ⟨y,ds,_,_,_,d4⟩:=e4 k l[k] (List.getElem?_eq_getElem hlt) fun q=>hk (.inr q)
   exact b9.valid hR d4 b o hm
theorem bX.valid {w:World} {s:St} : ∀ {n u:Nat} {l:List (S.C u)} {M:St} {cs:List Value},bX S w s n u l M cs→ ∀ b o,M b o→b<w.heap.size∧(w.cell? ⟨b,o,none⟩).isSome=true
 | 0,_,_,_,_,h,_,_,_=>h.elim
 | n+1,u,l,M,cs,⟨a,cap,L,Ms,h1,h2,h3,h4,h5⟩,b,o,hm=>by
  rcases (h4 b o).1 hm with ⟨rfl,q1,q2⟩ | ⟨k,hk⟩
  · exact tU h3 q1 q2
  · exact ep.valid (fun u l M cs q=>bX.valid (n:=n) q) h5 hk
theorem lJ.rep {w:World} {s s' M:St} (hs: ∀ b o,s b o∨M b o→s' b o) {e:Ty} {l:List (e.den S.C)} {cs:List Value} (h:lJ S w s M e l cs): ∃ n,av S w s' n (.sl e) l cs:=by
 obtain ⟨a,cap,L,rfl,h2,h3,h4,h5⟩:=h
 have hl:aV w s w s':=fun b o q=>⟨hs b o (.inl q),rfl⟩
 obtain ⟨n,hn⟩:=BM l (fun n i x=> ∃ ds,ds.length=Ty.sz S e∧At w s' L.b (L.o+i*Ty.sz S e) ds∧av S w s' n e x ds) (fun i x n m hm q=>by obtain ⟨ds,q1,q2,q3⟩:=q; exact ⟨ds,q1,q2,q3.up S hm⟩) fun i x hi=>by
  obtain ⟨ds,d1,d2,n,d3⟩:=h5 i x hi
  refine ⟨n,ds,d1,fun j v hj=>⟨d2 j v hj,hs _ _ (.inr ((h4 _ _).2 ?_))⟩,d3.mono S hl (Nat.le_refl _)⟩
  exact kK h2.cells (by rw [← h2.dU]; exact h2.fits) (List.getElem?_eq_some_iff.1 hi).1 (by have :=(List.getElem?_eq_some_iff.1 hj).1; omega)
 refine ⟨n+1,a,cap,rfl,h2.fits, ?_⟩
 cases fB:L.nil with
 | true=>left; have :=h2.isNil fB; have :=h2.dU; have :=h2.fits; show l.length=0; omega
 | false=>right; exact ⟨L.b,L.o,by rw [h2.addr,fB]; rfl,hn⟩
theorem b9.rep {w:World} {s s':St} (hR: ∀ u l M cs,(∀ b o,s b o∨M b o→s' b o)→R u l M cs→ ∃ m,av S w s' m (.sl (.st u)) l cs): ∀ {cs:List CK} {M:St} {y:aJ S.C cs} {vs:List Value},(cs.map fU).all (fun t=> !aZ t)=true→(∀ b o,s b o∨M b o→s' b o)→b9 S R w s M cs y vs→
 ∃ m,a_ S (fun t x cs=>av S w s' m t x cs) (cs.map fU) (jN cs y) vs
 | [],_,_,_,_,_,h=>⟨0,h.2⟩
 | c::cs,M,y,vs,hf,hs,⟨M1,M2,v1,v2,hM,hv,hlen,h1,h2⟩=>by
  simp only [List.map_cons,List.all_cons,Bool.and_eq_true,Bool.not_eq_true'] at hf
  obtain ⟨m2,r2⟩:=b9.rep hR (by simpa using hf.2) (fun b o q=>hs b o (q.imp id fun q=>(hM.1 b o).2 (.inr q))) h2
  have hs1: ∀ b o,s b o∨M1 b o→s' b o:=fun b o q=>hs b o (q.imp id fun q=>(hM.1 b o).2 (.inl q))
  have hl:aV w s w s':=fun b o q=>⟨hs b o (.inl q),rfl⟩
  have one: ∃ m,av S w s' m (fU c) (lO c (aJ.head y)) v1:=by
   cases c with
   | data t=>exact h1.2.imp fun _ q=>q.mono S hl (Nat.le_refl _)
   | aP e=>obtain ⟨a,cap,L,_,⟨n,q⟩,_⟩:=h1; exact ⟨n,q.mono S hl (Nat.le_refl _)⟩
   | az e=>exact lJ.rep hs1 h1
   | aF u=>exact hR _ _ _ _ hs1 h1
  obtain ⟨m1,r1⟩:=one
  have hl1:=r1.length
  rw [show Ty.sz S (fU c)=1 from by cases e:fU c <;> first | rfl | (rw [e] at hf; simp [aZ] at hf)] at hl1
  obtain ⟨c0,rfl⟩:=List.length_eq_one_iff.1 hl1
  refine ⟨max m1 m2,c0,v2,hv, ?_, ?_⟩
  · show av S w s' (max m1 m2) (fU c) (ag.head (ag.cons (lO c (aJ.head y)) (jN cs (aJ.tail y)))) [c0]
    rw [FO]; exact r1.up S (by omega)
  · show a_ S _ (cs.map fU) (ag.tail (ag.cons (lO c (aJ.head y)) (jN cs (aJ.tail y)))) v2
    rw [FP]; exact a_.mono S (fun t x cs hr=>hr.up S (by omega)) _ _ _ r2
theorem vF {w:World} {s s':St} (hF: ∀ u,(S.F u).all (fun t=> !aZ t)=true) (hR: ∀ u l M cs,(∀ b o,s b o∨M b o→s' b o)→R u l M cs→ ∃ m,av S w s' m (.sl (.st u)) l cs) {u:Nat} {x:S.C u} {y:aJ S.C (S.own u)} (hp:partsOf S u x=some y) {M:St} {ds:List Value} (hs: ∀ b o,s b o∨M b o→s' b o)
 (h:b9 S R w s M (S.own u) y ds): ∃ m,av S w s' m (.st u) x ds:=by
 unfold partsOf at hp
 split at hp
 · rename_i e
   cases hp
   obtain ⟨m,hm⟩:=b9.rep hR (by rw [← e]; exact hF u) hs h
   rw [Gb] at hm
   refine ⟨m+1, ?_⟩
   show a_ S _ (S.F u) (S.ex u x) ds
   have key: ∀ (ts:List Ty) (e:ts=(S.own u).map fU) (q:ag S.C ts),a_ S (fun t x cs=>av S w s' m t x cs) ((S.own u).map fU) (e▸q) ds→a_ S (fun t x cs=>av S w s' m t x cs) ts q ds:=by
    intro ts e q hq; subst e; exact hq
   exact key _ e _ hm
 · cases hp
theorem bX.rep {w:World} {s s':St} (hF: ∀ u,(S.F u).all (fun t=> !aZ t)=true): ∀ {n u:Nat} {l:List (S.C u)} {M:St} {cs:List Value},(∀ b o,s b o∨M b o→s' b o)→bX S w s n u l M cs→ ∃ m,av S w s' m (.sl (.st u)) l cs
 | 0,_,_,_,_,_,h=>h.elim
 | n+1,u,l,M,cs,hs,h=>by
  obtain ⟨a,cap,L,Ms,rfl,h2,h3,h4,e1,e2,e3,e4⟩:=h
  obtain ⟨m,hm⟩:=BM l (fun n i (x:S.C u)=> ∃ ds,ds.length=Ty.sz S (.st u)∧At w s' L.b (L.o+i*Ty.sz S (.st u)) ds∧av S w s' n (.st u) x ds) (fun i x n m hm q=>by obtain ⟨ds,q1,q2,q3⟩:=q; exact ⟨ds,q1,q2,q3.up S hm⟩) fun i x hi=>by
   obtain ⟨y,ds,d1,d2,d3,d4⟩:=e4 i x hi (by simp)
   obtain ⟨m,hm⟩:=vF (s':=s') hF (fun u l M cs q1 q2=>bX.rep hF (n:=n) q1 q2) d1 (fun b o q=>hs b o (q.imp id fun q=>(h4 b o).2 (.inr ⟨i,q⟩))) d4
   refine ⟨m,ds,d2,fun j v hj=>⟨d3 j v hj,hs _ _ (.inr ((h4 _ _).2 (.inl ?_)))⟩,hm⟩
   exact kK h2.cells (by rw [← h2.dU]; exact h2.fits) (List.getElem?_eq_some_iff.1 hi).1 (by have :=(List.getElem?_eq_some_iff.1 hj).1; omega)
  refine ⟨m+1,a,cap,rfl,h2.fits, ?_⟩
  cases fB:L.nil with
  | true=>left; have :=h2.isNil fB; have :=h2.dU; have :=h2.fits; show l.length=0; omega
  | false=>right; exact ⟨L.b,L.o,by rw [h2.addr,fB]; rfl,hm⟩
end
end Go.Sy
namespace Go.Sy
section
variable (P:Program) (S:aK)
theorem aI {α:Type} (f:Nat→α) (k:Nat) (v:α):ai f k v k=v:=by
 unfold ai
 rw [show Nat.beq k k=true from Nat.beq_refl k]; rfl
theorem aY {α:Type} (f:Nat→α) {k i:Nat} (v:α) (h:i≠k):ai f k v i=f i:=by
 unfold ai
 cases e:Nat.beq i k with
 | true=>exact absurd (Nat.eq_of_beq_eq_true e) h
 | false=>rfl
def cg (m m':Loc):b7 S.C→b7 S.C→Prop
 | .cells _, .cells _=>m'=m
 | .cells _, .bH _=>m'=m
 | .bH _, .bH _=>m'=m
 | .arr e l, .arr e' l'=>m'=m∧e'=e∧l'.length=l.length
 | .arr e l, .bn e' l'=>m'=m∧e'=e∧l'.length=l.length
 | .bn e l, .bn e' l'=>m'=m∧e'=e∧l'.length=l.length
 | .aF u l _, .aF u' l' _=>m'.plain=m.plain∧u'=u∧l'.length=l.length
 | .aF u l _, .bn e' l'=>m'.plain=m.plain∧e'= .st u∧l'.length=l.length
 | .tail, .tail=>m'=m
 | .aQ _, .aQ _=>m'=m
 | .cells _, .aQ _=>m'=m
 | .aQ _, .cells _=>m'=m
 | .buf l, .buf l'=>m'=m∧l'.length=l.length
 | _, .dead=>m'=m
 | _,_=>False
def sV:b7 S.C→Prop
 | .cells _ | .aQ _=>True
 | _=>False
theorem H8 {m m':Loc} {B B':b7 S.C} (h:sV S B) (h':sV S B') (e:m'=m):cg S m m' B B':=by
 cases B <;> first | exact h.elim | (cases B' <;> first | exact h'.elim | exact e)
theorem uG {m m':Loc} {B B':b7 S.C} (h:cg S m m' B B'):m'.b=m.b∧m'.o=m.o:=by
 have e:m'=m→m'.b=m.b∧m'.o=m.o:=fun e=>by rw [e]; exact ⟨rfl,rfl⟩
 have p:m'.plain=m.plain→m'.b=m.b∧m'.o=m.o:=fun e=>Loc.tc e
 cases B <;> cases B' <;> simp only [cg] at h <;> first | exact e h | exact e h.1 | exact p h.1
theorem cg.refl (m:Loc) (B:b7 S.C):cg S m m B B:=by cases B <;> simp [cg]
def ay (w0:World) (M0 s0:St) (bx:Bx S.C) (μ:Nat→Loc) (w:World):St:=
 fun b o=>b<w.heap.size∧(s0 b o∨M0 b o∨w0.heap.size≤b)∧ ∀ i,live S bx i→ ¬ (μ i).au b o
structure Inv (w0:World) (M0 s0:St) (dq:List Deferred) (env:Env S.C) (a:Act) (w:World) (μ:Nat→Loc):Prop where
 iQ: ∀ t,RV P S w (ay S w0 M0 s0 env.bx μ w) μ env.bx (env.tm t) (a.tmps.getD t Go.undef)
 bw: ∀ i B,env.bx i=some B→RB P S w (ay S w0 M0 s0 env.bx μ w) μ env.bx (μ i) B
 cM: ∀ i j,i≠j→live S env.bx i→live S env.bx j→ ∀ b o,(μ i).au b o→(μ j).au b o→False
 own: ∀ i,live S env.bx i→ ∀ b o,(μ i).au b o→w0.heap.size≤b∨M0 b o
 ref: ∀ t i,i ∈ aq S (env.tm t)→env.bx i≠none
 jB: ∀ i vs,(env.bx i=some (.cells vs)∨env.bx i=some (.bH vs))→ ∀ v ∈ vs, ∀ j ∈ ak S v,env.bx j≠none
 gL:aO w0 w M0
 pP:a.defers=cond env.df dq []
 nX:jf S w0 M0
 ext: ∀ i,live S env.bx i→kU S (env.bx i)∨b6 (μ i).ext
theorem bl.step {w w':World} {s s':St} {μ μ':Nat→Loc} {bx aa:Bx S.C} (hl:aV w s w' s')
 (hc: ∀ i B0,bx i=some B0→ ∃ B,aa i=some B∧cg S (μ i) (μ' i) B0 B) {V:V S.C} {v:Value}
 (hr: ∀ i ∈ ak S V,bx i≠none) (h:bl P S w s μ bx V v):bl P S w' s' μ' aa V v:=by
 cases V with
 | undef=>trivial
 | skip=>exact h
 | d t x=>exact bT.mono S hl h
 | pr p i=>exact h
 | aP b e l=>
  refine ⟨bT.mono S hl h.1,fun hb=> ?_⟩
  obtain ⟨B0,bA⟩:=Option.ne_none_iff_exists'.1 (hr b (by simp [ak]))
  obtain ⟨B,hB,cK⟩:=hc b B0 bA
  rw [hb] at hB
  obtain rfl:=Option.some.inj hB
  cases B0 <;> simp only [cg] at cK
  rw [cK]
  exact h.2 bA
 | az b=>
  obtain ⟨B0,bA⟩:=Option.ne_none_iff_exists'.1 (hr b (by simp [ak]))
  obtain ⟨B,hB,cK⟩:=hc b B0 bA
  refine ⟨⟨h.1.1,fun u l q hb=> ?_⟩,fun e l hb=> ?_⟩
  · rw [hb] at hB
    obtain rfl:=Option.some.inj hB
    cases B0 <;> simp only [cg] at cK
    obtain ⟨hm,rfl,hlen⟩:=cK
    obtain ⟨ad,cap,g1,g2⟩:=h.1.2 _ _ _ bA
    exact ⟨ad,cap,by rw [hlen]; exact g1,by rw [hlen]; exact g2.plain hm⟩
  rcases hb with hb | hb <;>
  · rw [hb] at hB
    obtain rfl:=Option.some.inj hB
    cases B0 <;> simp only [cg] at cK
    all_goals
     obtain ⟨hm,rfl,hlen⟩:=cK
     first
     | (rw [hm,hlen]; exact h.2 _ _ (.inl bA))
     | (rw [hm,hlen]; exact h.2 _ _ (.inr bA))
     | (obtain ⟨ad,cap,g1,g2⟩:=h.1.2 _ _ _ bA; exact ⟨ad,cap,by rw [hlen]; exact g1,by rw [hlen]; exact g2.plain hm⟩)
 | pre b n=>
  refine ⟨h.1,fun e l hb=> ?_⟩
  replace h:=h.2
  obtain ⟨B0,bA⟩:=Option.ne_none_iff_exists'.1 (hr b (by simp [ak]))
  obtain ⟨B,hB,cK⟩:=hc b B0 bA
  rw [hb] at hB
  obtain rfl:=Option.some.inj hB
  cases B0 <;> simp only [cg] at cK
  obtain ⟨hm,rfl,hlen⟩:=cK
  rw [hm,hlen]
  exact h _ _ bA
 | win b i n=>
  refine ⟨h.1,fun e l hb=> ?_⟩
  replace h:=h.2
  obtain ⟨B0,bA⟩:=Option.ne_none_iff_exists'.1 (hr b (by simp [ak]))
  obtain ⟨B,hB,cK⟩:=hc b B0 bA
  rw [hb] at hB
  obtain rfl:=Option.some.inj hB
  cases B0 <;> simp only [cg] at cK
  obtain ⟨hm,rfl,hlen⟩:=cK
  rw [hm,hlen]
  exact h _ _ bA
 | ptr b off=>
  obtain ⟨B0,bA⟩:=Option.ne_none_iff_exists'.1 (hr b (by simp [ak]))
  obtain ⟨B,hB,cK⟩:=hc b B0 bA
  obtain ⟨sy,hm2⟩:=uG S cK
  show v=_
  rw [sy]
  first | (rw [hm2]; exact h) | exact h
 | cj b n=>
  obtain ⟨B0,bA⟩:=Option.ne_none_iff_exists'.1 (hr b (by simp [ak]))
  obtain ⟨B,hB,cK⟩:=hc b B0 bA
  obtain ⟨sy,hm2⟩:=uG S cK
  show v=_
  rw [sy]
  first | (rw [hm2]; exact h) | exact h
 | split b c=>
  have hm: ∀ i ∈ [b,c],(μ' i).b=(μ i).b∧(μ' i).o=(μ i).o:=fun i hb=>by
   obtain ⟨B0,bA⟩:=Option.ne_none_iff_exists'.1 (hr i hb)
   obtain ⟨B,hB,cK⟩:=hc i B0 bA
   exact uG S cK
  obtain ⟨k,q,h1,h2,h3,h4⟩:=h
  rw [← (hm c (by simp)).1, ← (hm c (by simp)).2] at h2
  rw [← (hm b (by simp)).1] at h3
  rw [← (hm b (by simp)).2] at h4
  exact ⟨k,q,h1,h2.later hl,h3,h4⟩
 | i_ c=>
  obtain ⟨B0,bA⟩:=Option.ne_none_iff_exists'.1 (hr c (by simp [ak]))
  obtain ⟨B,hB,cK⟩:=hc c B0 bA
  obtain ⟨sy,hm2⟩:=uG S cK
  obtain ⟨k,q,h1,h2⟩:=h
  rw [← sy, ← hm2] at h2
  exact ⟨k,q,h1,h2.later hl⟩
 | cG b i off=>
  obtain ⟨B0,bA⟩:=Option.ne_none_iff_exists'.1 (hr b (by simp [ak]))
  obtain ⟨B,hB,cK⟩:=hc b B0 bA
  refine ⟨⟨h.1.1,fun u l q hb=> ?_⟩,fun e l hb=> ?_⟩
  · rw [hb] at hB
    obtain rfl:=Option.some.inj hB
    cases B0 <;> simp only [cg] at cK
    obtain ⟨hm,rfl,hlen⟩:=cK
    obtain ⟨g1,g2,g3⟩:=h.1.2 _ _ _ bA
    rw [hlen,(Loc.tc hm).1,(Loc.tc hm).2]
    exact ⟨g1,g2,g3⟩
  rcases hb with hb | hb <;>
  · rw [hb] at hB
    obtain rfl:=Option.some.inj hB
    cases B0 <;> simp only [cg] at cK
    all_goals
     obtain ⟨hm,rfl,hlen⟩:=cK
     first
     | (rw [hm,hlen]; exact h.2 _ _ (.inl bA))
     | (rw [hm,hlen]; exact h.2 _ _ (.inr bA))
     | (obtain ⟨g1,g2,g3⟩:=h.1.2 _ _ _ bA; rw [hlen,(Loc.tc hm).1,(Loc.tc hm).2]; exact ⟨g1,g2,g3⟩)
 | cH t x=>exact kF.mono S hl h
 | nil=>exact h
 | err b=>exact h
 | b8=>exact h
 | fv a r g=>exact kE.mono P S hl h
 | fe f vs=>exact h.elim
 | agg u vs=>exact h.elim
 | gG vs=>exact h.elim
theorem aB.step {w w':World} {s s':St} {μ μ':Nat→Loc} {bx aa:Bx S.C} (hl:aV w s w' s')
 (hc: ∀ i B0,bx i=some B0→ ∃ B,aa i=some B∧cg S (μ i) (μ' i) B0 B): ∀ {vs:List (V S.C)} {cs:List Value},
 (∀ v ∈ vs, ∀ i ∈ ak S v,bx i≠none)→aB P S w s μ bx vs cs→aB P S w' s' μ' aa vs cs
 | [],_,_,h=>h
 | v::vs,_,hr,⟨c,r,h1,h2,h3⟩=>⟨c,r,h1,bl.step P S hl hc (hr v (by simp)) h2,aB.step hl hc (fun v hv=>hr v (by simp [hv])) h3⟩
theorem RV.step {w w':World} {s s':St} {μ μ':Nat→Loc} {bx aa:Bx S.C} (hl:aV w s w' s')
 (hc: ∀ i B0,bx i=some B0→ ∃ B,aa i=some B∧cg S (μ i) (μ' i) B0 B) {V:V S.C} {v:Value}
 (hr: ∀ i ∈ aq S V,bx i≠none) (h:RV P S w s μ bx V v):RV P S w' s' μ' aa V v:=by
 cases V with
 | agg u vs=>
  obtain ⟨cs,h1,h2,h3,h4⟩:=h
  exact ⟨cs,h1,h2,h3,aB.step P S hl hc (fun v hv i hi=>hr i (by simp only [aq,List.mem_flatMap]; exact ⟨v,hv,hi⟩)) h4⟩
 | gG vs=>
  obtain ⟨cs,h1,h4⟩:=h
  exact ⟨cs,h1,aB.step P S hl hc (fun v hv i hi=>hr i (by simp only [aq,List.mem_flatMap]; exact ⟨v,hv,hi⟩)) h4⟩
 | fe f vs=>
  obtain ⟨cs,h1,h4⟩:=h
  exact ⟨cs,h1,aB.step P S hl hc (fun v hv i hi=>hr i (by simp only [aq,List.mem_flatMap]; exact ⟨v,hv,hi⟩)) h4⟩
 | undef=>exact trivial
 | skip=>exact bl.step P S hl hc (V:= .skip) hr h
 | d t x=>exact bl.step P S hl hc (V:= .d t x) hr h
 | pr p i=>exact bl.step P S hl hc (V:= .pr p i) hr h
 | aP b e l=>exact bl.step P S hl hc (V:= .aP b e l) hr h
 | az b=>exact bl.step P S hl hc (V:= .az b) hr h
 | pre b n=>exact bl.step P S hl hc (V:= .pre b n) hr h
 | win b i n=>exact bl.step P S hl hc (V:= .win b i n) hr h
 | ptr b off=>exact bl.step P S hl hc (V:= .ptr b off) hr h
 | cj b n=>exact bl.step P S hl hc (V:= .cj b n) hr h
 | split b c=>exact bl.step P S hl hc (V:= .split b c) hr h
 | i_ c=>exact bl.step P S hl hc (V:= .i_ c) hr h
 | cG b i off=>exact bl.step P S hl hc (V:= .cG b i off) hr h
 | cH t x=>exact bl.step P S hl hc (V:= .cH t x) hr h
 | nil=>exact bl.step P S hl hc (V:= .nil) hr h
 | err b=>exact bl.step P S hl hc (V:= .err b) hr h
 | b8=>exact bl.step P S hl hc (V:= .b8) hr h
 | fv a r g=>exact bl.step P S hl hc (V:= .fv a r g) hr h
theorem aB.length {w:World} {s:St} {μ:Nat→Loc} {bx:Bx S.C} : ∀ {vs:List (V S.C)} {cs:List Value},aB P S w s μ bx vs cs→cs.length=vs.length
 | [],_,h=>by cases h; rfl
 | _::_,_,⟨c,r,h1,_,h3⟩=>by subst h1; simp [aB.length h3]
theorem aB.append {w:World} {s:St} {μ:Nat→Loc} {bx:Bx S.C} : ∀ {vs ws:List (V S.C)} {cs ds:List Value},aB P S w s μ bx vs cs→aB P S w s μ bx ws ds→aB P S w s μ bx (vs++ws) (cs++ds)
 | [],_,_,_,h,h'=>by cases h; exact h'
 | _::_,_,_,ds,⟨c,r,h1,h2,h3⟩,h'=>⟨c,r++ds,by simp [h1],h2,aB.append h3 h'⟩
theorem aB.take {w:World} {s:St} {μ:Nat→Loc} {bx:Bx S.C} : ∀ (n:Nat) {vs:List (V S.C)} {cs:List Value},aB P S w s μ bx vs cs→aB P S w s μ bx (vs.take n) (cs.take n)
 | 0,_,_,_=>by simp [aB]
 | _+1,[],_,h=>by cases h; simp [aB]
 | n+1,_::_,_,⟨c,r,h1,h2,h3⟩=>⟨c,r.take n,by simp [h1],h2,aB.take n h3⟩
theorem aB.drop {w:World} {s:St} {μ:Nat→Loc} {bx:Bx S.C} : ∀ (n:Nat) {vs:List (V S.C)} {cs:List Value},aB P S w s μ bx vs cs→aB P S w s μ bx (vs.drop n) (cs.drop n)
 | 0,_,_,h=>h
 | _+1,[],_,h=>by cases h; simp [aB]
 | n+1,_::_,_,⟨c,r,h1,h2,h3⟩=>by subst h1; exact aB.drop n h3
theorem aB.get {w:World} {s:St} {μ:Nat→Loc} {bx:Bx S.C} : ∀ {vs:List (V S.C)} {cs:List Value} (n:Nat) {v:V S.C},aB P S w s μ bx vs cs→vs[n]? =some v→ ∃ c,cs[n]? =some c∧bl P S w s μ bx v c
 | [],_,_,_,_,hv=>by simp at hv
 | _::_,_,0,_,⟨c,r,h1,h2,h3⟩,hv=>by subst h1; simp at hv; subst hv; exact ⟨c,by simp,h2⟩
 | _::_,_,n+1,_,⟨c,r,h1,h2,h3⟩,hv=>by
  subst h1
  obtain ⟨c',fW,hr⟩:=aB.get n h3 (by simpa using hv)
  exact ⟨c',by simpa using fW,hr⟩
theorem nR {w:World} {b o:Nat} {cs:Array Value} {T:TypeId} {fz:Nat×Nat} (h:w.heap[b]? =some (.cells cs T fz)):(w.cell? ⟨b,o,none⟩).isSome=true↔o<cs.size:=by
 rw [Lib.cell_of_heap h]; simp
theorem qW.cells {w:World} {b:Nat} {v:Value} (h:qW S w b v) {o:Nat} :(w.cell? ⟨b,o,none⟩).isSome=true↔o<2:=by
 obtain ⟨T,e,p,_,h,_⟩:=h
 exact nR h
theorem kD.row {w:World} {L:Loc} {l:List UInt8} (h:kD S w L l):L.n=0∧L.nil=true∧l= []∨ ∃ T e cur fz,S.bt=some (T,e)∧w.heap[L.b]? =some (.cells cur e fz)∧cur.size=L.n∧L.nil=false:=by
 obtain ⟨h1,h2,h3,T,e,h4,h5,h6⟩:=h
 rcases h6 with ⟨h6,h7⟩ | ⟨g,cap,cur,fz,h6, -,h7, -, -, -,h8, -⟩
 · unfold e_ at h6
   simp only [Value.slice.injEq] at h6
   obtain ⟨h6,_,h8⟩:=h6
   refine .inl ⟨by omega, ?_,List.length_eq_zero_iff.1 h7⟩
   cases hn:L.nil with
   | true=>rfl
   | false=>rw [hn] at h6; simp at h6
 · unfold e_ at h6
   simp only [Value.slice.injEq] at h6
   obtain ⟨h6,_,h9⟩:=h6
   cases hn:L.nil with
   | true=>rw [hn] at h6; simp at h6
   | false=>
    rw [hn] at h6
    simp at h6
    subst h6
    exact .inr ⟨T,e,cur,fz,h4,h7,by omega,rfl⟩
theorem ju {w:World} {s:St} {μ:Nat→Loc} {bx:Bx S.C} {i:Nat} (h: ∀ B,bx i=some B→RB P S w s μ bx (μ i) B) (hx:kU S (bx i)∨b6 (μ i).ext) (hi:live S bx i) {b o:Nat} (hf:(μ i).au b o):
 b<w.heap.size∧(w.cell? ⟨b,o,none⟩).isSome=true:=by
 have key:w.there (μ i).b (μ i).o (μ i).n→(μ i).bI b o→b<w.heap.size∧(w.cell? ⟨b,o,none⟩).isSome=true:=fun ht hf=>by
  obtain ⟨rfl,h1,h2⟩:=hf
  exact tU ht h1 h2
 have plain: ¬ kU S (bx i)→(μ i).bI b o:=fun hn=>Loc.ia (hx.resolve_left hn) hf
 unfold live at hi
 split at hi
 · rename_i vs hb; exact key (h _ hb).2.2.1 (plain (by rw [hb]; exact id))
 · rename_i e l hb; exact key (h _ hb).2.2.2.1 (plain (by rw [hb]; exact id))
 · rename_i u l q hb
   obtain ⟨_,_,_,h4,n,Ms,h5,h6⟩:=h _ hb
   rcases hf with hf | hf
   · exact key h4 hf
   · obtain ⟨k,hk⟩:=(h5 b o).1 hf
     exact ep.valid (fun u l M cs q=>bX.valid q) h6 hk
 · rename_i hb; exact key (h _ hb) (plain (by rw [hb]; exact id))
 · rename_i j hb
   obtain ⟨h1,h2,_,v,h3,_⟩:=h _ hb
   obtain ⟨rfl,h4,h5⟩:=plain (by rw [hb]; exact id)
   have :=(h3.cells S (o:=o)).2 (by omega)
   obtain ⟨v,hv⟩:=Option.isSome_iff_exists.1 this
   exact ⟨World.block_lt_of_cell? w _ hv,this⟩
 · rename_i l hb
   obtain ⟨rfl,h4,h5⟩:=plain (by rw [hb]; exact id)
   have h1:kD S w (μ i) l:=h _ hb
   rcases h1.row with ⟨h2, -⟩ | ⟨T,e,cur,fz, -,h2,h3, -⟩
   · omega
   · have :=(nR (o:=o) h2).2 (by have :=h1.1; omega)
     obtain ⟨v,hv⟩:=Option.isSome_iff_exists.1 this
     exact ⟨World.block_lt_of_cell? w _ hv,this⟩
 · exact hi.elim
theorem dA {bx aa:Bx S.C} {i:Nat} (h:aa i=bx i):live S aa i↔live S bx i:=by unfold live; rw [h]
variable {P S}
theorem Inv.later {w0:World} {M0 s0:St} {dq:List Deferred} {env:Env S.C} {a:Act} {w:World} {μ:Nat→Loc} (h:Inv P S w0 M0 s0 dq env a w μ)
 {w':World} {T:St} {aa:Bx S.C} {μ':Nat→Loc} {U:Nat→Prop} (hw:aO w w' T)
 (hT: ∀ b o,T b o→b<w.heap.size→ ∃ i,U i∧live S env.bx i∧(μ i).au b o)
 (hU: ∀ i, ¬ U i→aa i=env.bx i∧μ' i=μ i)
 (hf: ∀ i,U i→live S aa i→ ∀ b o,(μ' i).au b o→w.heap.size≤b∨ ∃ j,U j∧live S env.bx j∧(μ j).au b o):
 aV w (ay S w0 M0 s0 env.bx μ w) w' (ay S w0 M0 s0 aa μ' w'):=by
 intro b o ⟨h1,h2,h3⟩
 refine ⟨⟨Nat.lt_of_lt_of_le h1 hw.size,h2,fun i hi hfo=> ?_⟩, ?_⟩
 · by_cases hu:U i
   · rcases hf i hu hi b o hfo with hlt | ⟨j,_,hj,Js⟩
     · omega
     · exact h3 j hj Js
   · rw [dA S (hU i hu).1] at hi
     rw [(hU i hu).2] at hfo
     exact h3 i hi hfo
 · exact hw.cell b o h1 fun ht=>by
    obtain ⟨i,_,hi,hfo⟩:=hT b o ht h1
    exact h3 i hi hfo
theorem Inv.step {w0:World} {M0 s0:St} {dq:List Deferred} {env:Env S.C} {a:Act} {w:World} {μ:Nat→Loc} (h:Inv P S w0 M0 s0 dq env a w μ)
 {w':World} {T:St} {aa:Bx S.C} {μ':Nat→Loc} {U:Nat→Prop} (hw:aO w w' T)
 (hT: ∀ b o,T b o→b<w.heap.size→ ∃ i,U i∧live S env.bx i∧(μ i).au b o)
 (hU: ∀ i, ¬ U i→aa i=env.bx i∧μ' i=μ i)
 (hf: ∀ i,U i→live S aa i→ ∀ b o,(μ' i).au b o→w.heap.size≤b∨ ∃ j,U j∧live S env.bx j∧(μ j).au b o)
 (hc: ∀ i B0,env.bx i=some B0→ ∃ B,aa i=some B∧cg S (μ i) (μ' i) B0 B)
 (hd: ∀ i j,U i→U j→i≠j→live S aa i→live S aa j→ ∀ b o,(μ' i).au b o→(μ' j).au b o→False)
 (hb: ∀ i B,U i→aa i=some B→RB P S w' (ay S w0 M0 s0 aa μ' w') μ' aa (μ' i) B)
 (hr: ∀ i vs,U i→(aa i=some (.cells vs)∨aa i=some (.bH vs))→ ∀ v ∈ vs, ∀ j ∈ ak S v,aa j≠none)
 (hx: ∀ i,U i→live S aa i→kU S (aa i)∨b6 (μ' i).ext):
 Inv P S w0 M0 s0 dq { env with bx:=aa } a w' μ':=by
 have hl:=h.later hw hT hU hf
 have hne: ∀ i,env.bx i≠none→aa i≠none:=fun i hi=>by
  obtain ⟨B0,bA⟩:=Option.ne_none_iff_exists'.1 hi
  obtain ⟨B,hB,_⟩:=hc i B0 bA
  rw [hB]; simp
 have C_: ∀ i j, ¬ U i→U j→live S aa i→live S aa j→ ∀ b o,(μ' i).au b o→(μ' j).au b o→False:=by
  intro i j hi hj li lj b o fi fj
  rw [dA S (hU i hi).1] at li
  rw [(hU i hi).2] at fi
  rcases hf j hj lj b o fj with hlt | ⟨k,hk,lk,fk⟩
  · exact absurd (ju P S (h.bw i) (h.ext i li) li fi).1 (by omega)
  · exact h.cM i k (fun e=>hi (e▸hk)) li lk b o fi fk
 refine ⟨fun t=>RV.step P S hl hc (h.ref t) (h.iQ t), ?_, ?_, ?_,fun t i hi=>hne i (h.ref t i hi), ?_, ?_,h.pP,h.nX,fun i li=> ?_⟩
 · intro i B hB
   by_cases hu:U i
   · exact hb i B hu hB
   · have gk:env.bx i=some B:=(hU i hu).1▸hB
     have hold:=h.bw i B gk
     rw [(hU i hu).2]
     have hcell:live S env.bx i→ ∀ o,(μ i).au (μ i).b o→w'.cell? ⟨(μ i).b,o,none⟩=w.cell? ⟨(μ i).b,o,none⟩∧w'.frozen? ⟨(μ i).b,o,none⟩=w.frozen? ⟨(μ i).b,o,none⟩:=fun li o fo=>by
      have hlt:=(ju P S (h.bw i) (h.ext i li) li fo).1
      exact ⟨hw.cell _ _ hlt fun ht=>by
       obtain ⟨j,uj,lj,fj⟩:=hT _ _ ht hlt
       exact h.cM i j (fun e=>hu (e▸uj)) li lj _ _ fo fj,hw.lP _ _ hlt fun ht=>by
       obtain ⟨j,uj,lj,fj⟩:=hT _ _ ht hlt
       exact h.cM i j (fun e=>hu (e▸uj)) li lj _ _ fo fj⟩
     have pW:live S env.bx i→(∀ o,(w.cell? ⟨(μ i).b,o,none⟩).isSome=true→(μ i).au (μ i).b o)→(μ i).b<w.heap.size→w'.heap[(μ i).b]? =w.heap[(μ i).b]? :=fun li hin hlt=>
      hw.same _ hlt fun o ht=>by
       obtain ⟨j,uj,lj,fj⟩:=hT _ _ ht hlt
       exact h.cM i j (fun e=>hu (e▸uj)) li lj _ _ (hin o (ju P S (h.bw j) (h.ext j lj) lj fj).2) fj
     have p8:live S env.bx i→w.there (μ i).b (μ i).o (μ i).n→w'.there (μ i).b (μ i).o (μ i).n:=fun li ht j hj=>by
      obtain ⟨c1,c2⟩:=hcell li ((μ i).o+j) (.inl ⟨rfl,by omega,by omega⟩)
      rw [c1,c2]; exact ht j hj
     have Dy:live S env.bx i→ ∀ o cs,(μ i).o≤o→o+cs.length≤(μ i).o+(μ i).n→w.rangeAt (μ i).b o cs→w'.rangeAt (μ i).b o cs:=fun li o cs h1 h2 js j v hj=>by
      have hjl:=(List.getElem?_eq_some_iff.1 hj).1
      rw [(hcell li (o+j) (.inl ⟨rfl,by omega,by omega⟩)).1]
      exact js j v hj
     cases B with
     | cells vs=>
      have li:live S env.bx i:=by unfold live; rw [gk]; trivial
      obtain ⟨h1,h2,h3,cs,h4,h5⟩:=hold
      have hlen:=aB.length P S h5
      exact ⟨h1,h2,p8 li h3,cs,Dy li _ _ (Nat.le_refl _) (by omega) h4,aB.step P S hl hc (h.jB i vs (.inl gk)) h5⟩
     | bH vs=>
      obtain ⟨h1,cs,h4,h5⟩:=hold
      exact ⟨h1,cs,h4.later hl,aB.step P S hl hc (h.jB i vs (.inr gk)) h5⟩
     | arr e l=>
      have li:live S env.bx i:=by unfold live; rw [gk]; trivial
      obtain ⟨h1,h2,h3,h4,h5⟩:=hold
      refine ⟨h1,h2,h3,p8 li h4,fun k x hk=> ?_⟩
      obtain ⟨ds,hds,js,n,iX⟩:=h5 k x hk
      have hkl:=(List.getElem?_eq_some_iff.1 hk).1
      refine ⟨ds,hds,Dy li _ _ (by omega) ?_ js,n,iX.mono S hl (Nat.le_refl _)⟩
      have :(k+1)*Ty.sz S e≤(μ i).cap*Ty.sz S e:=Nat.mul_le_mul_right _ (by omega)
      rw [Nat.add_mul,Nat.one_mul] at this
      omega
     | bn e l=>
      obtain ⟨h2,h3,h5⟩:=hold
      refine ⟨h2,h3,fun k x hk=> ?_⟩
      obtain ⟨ds,hds,js,n,iX⟩:=h5 k x hk
      exact ⟨ds,hds,js.later hl,n,iX.mono S hl (Nat.le_refl _)⟩
     | aF u l q=>
      have li:live S env.bx i:=by unfold live; rw [gk]; trivial
      obtain ⟨h1,h2,h3,h4,n,Ms,h5,h6⟩:=hold
      have hk:Kept w w' (fun b o=>(μ i).bI b o∨ ∃ k,Ms k b o):=fun b o hm=>by
       have fo:(μ i).au b o:=hm.imp id (h5 b o).2
       have hlt:=(ju P S (h.bw i) (h.ext i li) li fo).1
       have hn: ¬ T b o:=fun ht=>by
        obtain ⟨j,uj,lj,fj⟩:=hT _ _ ht hlt
        exact h.cM i j (fun e=>hu (e▸uj)) li lj _ _ fo fj
       exact ⟨hw.cell _ _ hlt hn,hw.lP _ _ hlt hn⟩
      exact ⟨h1,h2,h3,p8 li h4,n,Ms,h5,ep.step hl (fun u l M cs q1 q2=>bX.step hl (Nat.le_refl _) q1 q2) hk h1 h3 h6⟩
     | tail=>
      have li:live S env.bx i:=by unfold live; rw [gk]; trivial
      exact p8 li hold
     | dead=>trivial
     | aQ k=>
      have li:live S env.bx i:=by unfold live; rw [gk]; trivial
      obtain ⟨h1,h2,h3,v,h4,h5⟩:=hold
      have hlt:(μ i).b<w.heap.size:=by
       obtain ⟨v,hv⟩:=Option.isSome_iff_exists.1 ((h4.cells S (o:=0)).2 (by omega))
       exact World.block_lt_of_cell? w _ hv
      have hb:=pW li (fun o ho=>by have :=(h4.cells S).1 ho; exact .inl ⟨rfl,by omega,by omega⟩) hlt
      refine ⟨h1,h2,hne k h3,v, ?_,fun l hl'=> ?_⟩
      · obtain ⟨T,e,p,q1,q2,q3⟩:=h4
        exact ⟨T,e,p,q1,hb.trans q2,q3⟩
      · obtain ⟨B0,bA⟩:=Option.ne_none_iff_exists'.1 h3
        obtain ⟨B1,jn,cK⟩:=hc k B0 bA
        have hl':aa k=some (.buf l):=hl'
        rw [hl'] at jn
        cases jn
        cases B0 <;> simp only [cg] at cK
        obtain ⟨hm,hlen⟩:=cK
        rw [hm,hlen]
        exact h5 _ bA
     | buf l=>
      have li:live S env.bx i:=by unfold live; rw [gk]; trivial
      have hold:kD S w (μ i) l:=hold
      rcases hold.row with ⟨q1,q2,q3⟩ | ⟨T,e,cur,fz,q1,q2,q3,q4⟩
      · obtain ⟨r1,r2,r3,T,e,r4,r5⟩:=hold
        refine ⟨r1,r2,r3,T,e,r4, ?_⟩
        subst q3
        have hv:e_ (μ i) ([]:List UInt8).length= .slice none 0 0:=by unfold e_; rw [q2,r3 q2]; rfl
        rw [hv]
        exact World.ownsRowF_nil ..
      · have hlt:(μ i).b<w.heap.size:=(Array.getElem?_eq_some_iff.1 q2).1
        have hb:=pW li (fun o ho=>by have :=(nR q2).1 ho; exact .inl ⟨rfl,by have :=hold.1; omega,by have :=hold.1; omega⟩) hlt
        obtain ⟨r1,r2,r3,T',e',r4,r5,r6⟩:=hold
        refine ⟨r1,r2,r3,T',e',r4,r5, ?_⟩
        rcases r6 with r6 | ⟨g,cap,cur',jZ,r6,r7,r8,r9⟩
        · exact .inl r6
        · have hg:g=(μ i).b:=by
           unfold e_ at r6
           rw [q4] at r6
           simp at r6
           exact r6.1.symm
          subst hg
          exact .inr ⟨_,cap,cur',jZ,r6,r7,hb.trans r8,r9⟩
 · intro i j hij li lj b o fi fj
   by_cases hi:U i
   · by_cases hj:U j
     · exact hd i j hi hj hij li lj b o fi fj
     · exact C_ j i hj hi lj li b o fj fi
   · by_cases hj:U j
     · exact C_ i j hi hj li lj b o fi fj
     · have l1:=(dA S (hU i hi).1).1 li
       have l2:=(dA S (hU j hj).1).1 lj
       rw [(hU i hi).2] at fi
       rw [(hU j hj).2] at fj
       exact h.cM i j hij l1 l2 b o fi fj
 · intro i li b o fi
   by_cases hi:U i
   · rcases hf i hi li b o fi with hlt | ⟨j,_,lj,fj⟩
     · exact .inl (Nat.le_trans h.gL.size hlt)
     · exact h.own j lj b o fj
   · have l1:=(dA S (hU i hi).1).1 li
     rw [(hU i hi).2] at fi
     exact h.own i l1 b o fi
 · intro i vs hvs v hv j hj
   by_cases hu:U i
   · exact hr i vs hu hvs v hv j hj
   · have sM:aa i=some (.cells vs)∨aa i=some (.bH vs):=hvs
     rw [(hU i hu).1] at sM
     exact hne j (h.jB i vs sM v hv j hj)
 · refine h.gL.trans hw (fun _ _ h=>h) fun b o hb ht=> ?_
   obtain ⟨i,_,li,fi⟩:=hT b o ht (Nat.lt_of_lt_of_le hb h.gL.size)
   rcases h.own i li b o fi with hlt | hm
   · omega
   · exact hm
 · by_cases hu:U i
   · exact hx i hu li
   · have e:=hU i hu
     rw [e.2]
     have e1:aa i=env.bx i:=e.1
     show kU S (aa i)∨_
     rw [e1]
     exact h.ext i ((dA S e1).1 li)
theorem Inv.put {w0:World} {M0 s0:St} {dq:List Deferred} {env:Env S.C} {a:Act} {w:World} {μ:Nat→Loc} (h:Inv P S w0 M0 s0 dq env a w μ) {dst:Option Nat} {V:V S.C} {v:Value}
 (hd: ∀ d,dst=some d→d<a.tmps.size) (hv:RV P S w (ay S w0 M0 s0 env.bx μ w) μ env.bx V v) (hr: ∀ i ∈ aq S V,env.bx i≠none):
 Inv P S w0 M0 s0 dq { env with tm:=qK env.tm dst V } (a.put dst v) w μ:=by
 cases dst with
 | none=>exact h
 | some d=>
  have hlt:=hd d rfl
  refine ⟨fun t=> ?_,h.bw,h.cM,h.own,fun t i hi=> ?_,h.jB,h.gL,h.pP,h.nX,h.ext⟩
  · show RV P S w _ μ env.bx (ai env.tm d V t) ((a.tmps.setIfInBounds d v).getD t Go.undef)
    by_cases e:t=d
    · subst e
      have :(a.tmps.setIfInBounds t v).getD t Go.undef=v:=by simp [Array.getD,hlt]
      rw [this,show ai env.tm t V t=V from aI _ _ _]
      exact hv
    · have :(a.tmps.setIfInBounds d v).getD t Go.undef=a.tmps.getD t Go.undef:=by
       simp [Array.getElem?_setIfInBounds_ne (Ne.symm e)]
      rw [this,show ai env.tm d V t=env.tm t from aY _ _ e]
      exact h.iQ t
  · have hi':i ∈ aq S (ai env.tm d V t):=hi
    by_cases e:t=d
    · subst e
      rw [show ai env.tm t V t=V from aI _ _ _] at hi'
      exact hr i hi'
    · rw [show ai env.tm d V t=env.tm t from aY _ _ e] at hi'
      exact h.ref t i hi'
end
end Go.Sy
namespace Go.Sy
structure bY (S:aK):Prop where
  flat: ∀ u,(S.F u).all (fun t=> !aZ t)=true
  kL: ∀ u y,S.ex u (S.im u y)=y
section
variable (P:Program) (S:aK)
def jQ (w:World) (s M:St):(c:CK)→c.den S.C→List Value→Prop
  | .data t,x,cs=>b6 M∧ ∃ n,av S w s n t x cs
  | .aP e,l,cs=>pF S w s M e l cs
  | .az e,l,cs=>lJ S w s M e l cs
  | .aF u,l,cs=> ∃ n,bX S w s n u l M cs
def dx (w:World) (s:St):(M:St)→(cs:List CK)→aJ S.C cs→List Value→Prop
  | M,[],_,vs=>b6 M∧vs= []
  | M,c::cs,x,vs=> ∃ M1 M2 nC qR,gx M M1 M2∧vs=nC++qR∧nC.length=CK.sz S c∧jQ S w s M1 c (aJ.head x) nC∧dx w s M2 cs (aJ.tail x) qR
def dQ (w:World) (s M:St) (cs:List CK) (x:aJ S.C cs) (v:Value):Prop:=
  ∃ b o ds M',v= .pointer (some ⟨b,o,none⟩)∧w.there b o ds.length∧w.rangeAt b o ds∧
    gx M (fun b' o'=>b'=b∧o≤o'∧o'<o+ds.length) M'∧dx S w s M' cs x ds
def GF (w:World) (s M:St) (cs:List CK) (x:aJ S.C cs) (v:Value):Prop:=
  ∃ p,v= .slice (some p) (CK.bJ S cs) (CK.bJ S cs)∧dQ S w s M cs x (.pointer (some p))
def lI (w:World) (M:St) (l:List UInt8) (v:Value):Prop:=
  ∃ b L,v= .pointer (some ⟨b,0,none⟩)∧qW S w b (e_ L l.length)∧kD S w L l∧gx M (Loc.mk b 0 2 0 false (fun _ _=>False)).bI L.bI
def GI (w:World) (s M:St) (t:Ty) (cs:List CK) (x:t.den S.C×aJ S.C cs) (v:Value):Prop:=
  ∃ b o p M1 M2,v= .pointer (some ⟨b,o,none⟩)∧At w s b o [.pointer (some p)]∧gx M M1 M2∧dQ S w s M1 [.data t] x.1 (.pointer (some p))∧dQ S w s M2 cs x.2 (.pointer (some ⟨b,o+1,none⟩))
def jR (w:World) (s M:St):(k:K)→k.den S.C→Value→Prop
  | .val c,x,v=>jQ S w s M c x v.cells.toList∧isAgg v=(match c with | .data t=>aZ t | _=>false)
  | .obj cs,x,v=>dQ S w s M cs x v
  | .opt cs,x,v=>match (x:Option (aJ S.C cs)) with
    | none=>b6 M∧v= .pointer none
    | some y=>dQ S w s M cs y v
  | .nil,_,v=>b6 M∧v= .pointer none
  | .ro t,x,v=>b6 M∧kF S w s t x v
  | .fn a r,g,v=>b6 M∧kE P S w s a r g v
  | .cj cs,x,v=>GF S w s M cs x v
  | .err,x,v=>b6 M∧wG x v
  | .aQ,x,v=>lI S w M x v
  | .bO t cs,x,v=>GI S w s M t cs x v
  | .agg u cs,x,v=> ∃ ds,v= .agg ds∧(S.F u).length=CK.bJ S cs∧dx S w s M cs x ds.toList
def bU (w:World) (s:St):(M:St)→(ks:List K)→Ks S.C ks→List Value→Prop
  | M,[],_,vs=>b6 M∧vs= []
  | M,k::ks,x,vs=> ∃ M1 M2 v r,gx M M1 M2∧vs=v::r∧jR P S w s M1 k (Ks.head x) v∧bU w s M2 ks (Ks.tail x) r
theorem jQ.mono {w:World} {s s' M:St} (hl:aV w s w s') {c:CK} {x:c.den S.C} {cs:List Value} (h:jQ S w s M c x cs):jQ S w s' M c x cs:=by
  cases c with
  | data t=>exact ⟨h.1,h.2.imp fun _ hn=>hn.mono S hl (Nat.le_refl _)⟩
  | aP e=>
    obtain ⟨a,cap,L,h1,⟨n,h2⟩,h3,h4,h5⟩:=h
    exact ⟨a,cap,L,h1,⟨n,h2.mono S hl (Nat.le_refl _)⟩,h3,h4,h5⟩
  | az e=>
    obtain ⟨a,cap,L,h1,h2,h3,h4,h5⟩:=h
    refine ⟨a,cap,L,h1,h2,h3,h4,fun i y hi=> ?_⟩
    obtain ⟨ds,d1,d2,n,d3⟩:=h5 i y hi
    exact ⟨ds,d1,d2,n,d3.mono S hl (Nat.le_refl _)⟩
  | aF u=>exact h.imp fun n q=>bX.step hl (Nat.le_refl _) (Kept.refl _ _) q
theorem dx.mono {w:World} {s s':St} (hl:aV w s w s'): ∀ {M:St} {cs:List CK} {x:aJ S.C cs} {vs:List Value},dx S w s M cs x vs→dx S w s' M cs x vs
  | _,[],_,_,h=>h
  | _,_::_,_,_,⟨M1,M2,v1,v2,h1,h2,h3,h4,h5⟩=>⟨M1,M2,v1,v2,h1,h2,h3,h4.mono S hl,dx.mono hl h5⟩
theorem dx.len {w:World} {s:St} : ∀ {M:St} {cs:List CK} {x:aJ S.C cs} {vs:List Value},dx S w s M cs x vs→vs.length=CK.bJ S cs
  | _,[],_,_,h=>by rw [h.2]; rfl
  | _,_::_,_,_,⟨M1,M2,v1,v2,h1,h2,h3,h4,h5⟩=>by rw [h2,List.length_append,h3,dx.len h5]; rfl
theorem dQ.mono {w:World} {s s' M:St} (hl:aV w s w s') {cs:List CK} {x:aJ S.C cs} {v:Value} (h:dQ S w s M cs x v):dQ S w s' M cs x v:=by
  obtain ⟨b,o,ds,M',h1,h2,h3,h4,h5⟩:=h
  exact ⟨b,o,ds,M',h1,h2,h3,h4,h5.mono S hl⟩
theorem jR.mono {w:World} {s s' M:St} (hl:aV w s w s') {k:K} {x:k.den S.C} {v:Value} (h:jR P S w s M k x v):jR P S w s' M k x v:=by
  cases k with
  | val c=>exact ⟨h.1.mono S hl,h.2⟩
  | obj cs=>exact dQ.mono S hl h
  | opt cs=>
    cases x with
    | none=>exact h
    | some y=>exact dQ.mono S hl h
  | nil=>exact h
  | ro t=>exact ⟨h.1,h.2.mono S hl⟩
  | fn a r=>exact ⟨h.1,h.2.mono P S hl⟩
  | cj cs=>
    obtain ⟨p,h1,h2⟩:=h
    exact ⟨p,h1,dQ.mono S hl h2⟩
  | err=>exact h
  | aQ=>exact h
  | agg u cs=>
    obtain ⟨ds,h1,h2,h3⟩:=h
    exact ⟨ds,h1,h2,dx.mono S hl h3⟩
  | bO t cs=>
    obtain ⟨b,o,p,M1,M2,h1,h2,h3,h4,h5⟩:=h
    exact ⟨b,o,p,M1,M2,h1,h2.later hl,h3,dQ.mono S hl h4,dQ.mono S hl h5⟩
theorem bU.mono {w:World} {s s':St} (hl:aV w s w s'): ∀ {M:St} {ks:List K} {x:Ks S.C ks} {vs:List Value},bU P S w s M ks x vs→bU P S w s' M ks x vs
  | _,[],_,_,h=>h
  | _,_::_,_,_,⟨M1,M2,v,r,h1,h2,h3,h4⟩=>⟨M1,M2,v,r,h1,h2,h3.mono P S hl,bU.mono hl h4⟩
def gr (w:World) (s:St):(ts:List Ty)→ag S.C ts→List Value→Prop
  | [],_,vs=>vs= []
  | t::ts,x,vs=> ∃ v r,vs=v::r∧kF S w s t (ag.head x) v∧gr w s ts (ag.tail x) r
def gv (e:gu S):Prop:=iz P e.f∧ ∀ (w:World) (s:St) (x:ag S.C e.a) (c:ag S.C e.c) (y:ag S.C e.r) (args caps:List Value),
  Bm S w→fE S w s e.a x args→gr S w s e.c c caps→e.sp x c=some y→
  Calls P e.f (args++caps).toArray w fun en w'=> ∃ us,en= .returned (ja us)∧aO w w' (fun _ _=>False)∧fE S w' (grown s w w') e.r y us
inductive cO:Option (b7 S.C)→(e:Ty)→List (e.den S.C)→Prop
  | arr (e:Ty) (l:List (e.den S.C)):cO (some (.arr e l)) e l
  | aF (u:Nat) (l:List (S.C u)):cO (some (.aF u l none)) (.st u) l
theorem cO.live {bx:Bx S.C} {i:Nat} {e:Ty} {l:List (e.den S.C)} (h:cO S (bx i) e l):Sy.live S bx i:=by
  unfold Sy.live
  generalize bx i=x at h
  cases h <;> trivial
theorem cO.two {x:Option (b7 S.C)} {e:Ty} {l:List (e.den S.C)} (h:cO S x e l):x=some (.arr e l)∨ ∃ u l',x=some (.aF u l' none)∧(⟨e,l⟩:(e:Ty)×List (e.den S.C))=⟨.st u,l'⟩:=by
  cases h with
  | arr=>exact .inl rfl
  | aF u l=>exact .inr ⟨u,l,rfl,rfl⟩
def Tk (bx aa:Bx S.C):Prop:= ∀ i,aa i=bx i∨(aa i=some .dead∧live S bx i)∨ ∃ e l,cO S (bx i) e l∧aa i=some (.bn e l)
theorem Tk.refl (bx:Bx S.C):Tk S bx bx:=fun _=> .inl rfl
theorem Tk.trans {bx aa iD:Bx S.C} (h:Tk S bx aa) (h':Tk S aa iD):Tk S bx iD:=by
  intro i
  rcases h' i with e | ⟨e,l⟩ | ⟨e,l,h1,h2⟩
  · rw [e]; exact h i
  · rcases h i with e' | ⟨e',l'⟩ | ⟨e',l',h1,h2⟩
    · exact .inr (.inl ⟨e,(dA S e').1 l⟩)
    · exact .inr (.inl ⟨e,l'⟩)
    · exact .inr (.inl ⟨e,cO.live S h1⟩)
  · rcases h i with e' | ⟨e',l'⟩ | ⟨e',l',h3,h4⟩
    · exact .inr (.inr ⟨e,l,e'▸h1,h2⟩)
    · rw [e'] at h1; cases h1
    · rw [h4] at h1; cases h1
def bC (w0:World) (M0 s0:St) (cm bx:Bx S.C) (μ:Nat→Loc) (w:World):St:=
  fun b o=>b<w.heap.size∧(s0 b o∨M0 b o∨w0.heap.size≤b)∧ ∀ i,live S cm i→(∃ e l,bx i=some (.bn e l))∨ ¬ (μ i).au b o
theorem gZ (w0:World) (M0 s0:St) (cm bx:Bx S.C) (μ:Nat→Loc) (w:World):aV w (ay S w0 M0 s0 cm μ w) w (bC S w0 M0 s0 cm bx μ w):=
  fun b o ⟨h1,h2,h3⟩=>⟨⟨h1,h2,fun i hi=> .inr (h3 i hi)⟩,rfl⟩
theorem oX {w0:World} {M0 s0:St} {cm bx aa:Bx S.C} {μ:Nat→Loc} {w:World} (h:Tk S bx aa):aV w (bC S w0 M0 s0 cm bx μ w) w (bC S w0 M0 s0 cm aa μ w):=
  fun b o ⟨h1,h2,h3⟩=>⟨⟨h1,h2,fun i hi=>(h3 i hi).imp (fun ⟨e,l,hb⟩=>by
    rcases h i with e' | ⟨_,l'⟩ | ⟨e',l',h1,_⟩
    · exact ⟨e,l,e'.trans hb⟩
    · unfold live at l'; rw [hb] at l'; exact l'.elim
    · rw [hb] at h1; cases h1) id⟩,rfl⟩
variable {P S}
theorem gr.mono {w w':World} {s s':St} (hl:aV w s w' s'): ∀ (ts:List Ty) (x:ag S.C ts) (vs:List Value),gr S w s ts x vs→gr S w' s' ts x vs
  | [],_,_,h=>h
  | _::ts,_,_,⟨v,r,h1,h2,h3⟩=>⟨v,r,h1,h2.mono S hl,gr.mono hl ts _ _ h3⟩
theorem dm {t u:Ty} {x:t.den S.C} {y:u.den S.C} (h:dj S t u x=some y): ∃ e:t=u,e▸x=y:=by
  unfold dj at h
  split at h
  · rename_i e; exact ⟨e,Option.some.inj h⟩
  · cases h
theorem av.jV {t:Ty} {v:Value} (h:isAgg v=aZ t) (ht:aZ t=false):v.cells.toList= [v]:=by
  rw [ht] at h
  cases v <;> first | rfl | simp [isAgg] at h
theorem Tk.Ba {bx:Bx S.C} {b:Nat} {e:Ty} {l:List (e.den S.C)} (h:cO S (bx b) e l):Tk S bx (ai bx b (some (.bn e l))):=fun i=>by
  by_cases hi:i=b
  · subst hi; exact .inr (.inr ⟨e,l,h,aI _ _ _⟩)
  · exact .inl (aY _ _ hi)
theorem Tk.ki {bx:Bx S.C} {b:Nat} (h:live S bx b):Tk S bx (ai bx b (some .dead)):=fun i=>by
  by_cases hi:i=b
  · subst hi; exact .inr (.inl ⟨aI _ _ _,h⟩)
  · exact .inl (aY _ _ hi)
theorem Tk.cn (bx:Bx S.C) (v:V S.C):Tk S bx (ah bx (cn S bx v)):=by
  cases v with
  | az b=>
    unfold Sy.cn
    dsimp only
    split
    · rename_i e l hb; exact Tk.Ba (by rw [hb]; exact .arr e l)
    · rename_i u l hb; exact Tk.Ba (e:= .st u) (by rw [hb]; exact .aF u l)
    · exact Tk.refl S bx
  | _=>exact Tk.refl S bx
theorem fu (bx:Bx S.C) (us vs:aA S.C):ah bx (us++vs)=ah (ah bx us) vs:=by
  induction us generalizing bx with
  | nil=>rfl
  | cons u us ih=>exact ih _
theorem CJ (bx aa:Bx S.C) (h: ∀ i,aa i=bx i∨ ∃ e l,cO S (bx i) e l∧aa i=some (.bn e l)) (v:V S.C):
    (∀ i,ah aa (cn S bx v) i=bx i∨ ∃ e l,cO S (bx i) e l∧ah aa (cn S bx v) i=some (.bn e l))∧Tk S aa (ah aa (cn S bx v)):=by
  have mm:(∀ i,ah aa [] i=bx i∨ ∃ e l,cO S (bx i) e l∧ah aa [] i=some (.bn e l))∧Tk S aa (ah aa []):=⟨h,Tk.refl S aa⟩
  cases v with
  | az b=>
    unfold Sy.cn
    dsimp only
    have go: ∀ (e:Ty) (l:List (e.den S.C)),cO S (bx b) e l→(∀ i,ah aa [(b, .bn e l)] i=bx i∨ ∃ e' l',cO S (bx i) e' l'∧ah aa [(b, .bn e l)] i=some (.bn e' l'))∧Tk S aa (ah aa [(b, .bn e l)]):=by
      intro e l hb
      refine ⟨fun i=> ?_,fun i=> ?_⟩ <;>
      · show _∨_
        by_cases hi:i=b
        · subst hi
          have e1:ah aa [(i, .bn e l)] i=some (.bn e l):=aI _ _ _
          first
          | exact .inr ⟨e,l,hb,e1⟩
          | (rcases h i with h1 | ⟨e',l',h1,h2⟩
             · exact .inr (.inr ⟨e,l,by rw [h1]; exact hb,e1⟩)
             · generalize bx i=X at hb h1
               cases hb <;> cases h1 <;> exact .inl (e1.trans h2.symm))
        · have e1:ah aa [(b, .bn e l)] i=aa i:=aY _ _ hi
          first
          | (rw [e1]; exact h i)
          | exact .inl e1
    split
    · rename_i e l hb; exact go e l (by rw [hb]; exact .arr e l)
    · rename_i u l hb; exact go (.st u) l (by rw [hb]; exact .aF u l)
    · exact mm
  | _=>exact mm
theorem rY (bx:Bx S.C): ∀ (vs:List (V S.C)) (aa:Bx S.C),(∀ i,aa i=bx i∨ ∃ e l,cO S (bx i) e l∧aa i=some (.bn e l))→
    (∀ i,ah aa (vs.flatMap (cn S bx)) i=bx i∨ ∃ e l,cO S (bx i) e l∧ah aa (vs.flatMap (cn S bx)) i=some (.bn e l))∧Tk S aa (ah aa (vs.flatMap (cn S bx)))
  | [],aa,h=>⟨h,Tk.refl S aa⟩
  | v::vs,aa,h=>by
    simp only [List.flatMap_cons,fu]
    obtain ⟨h1,h2⟩:=CJ bx aa h v
    obtain ⟨h3,h4⟩:=rY bx vs _ h1
    exact ⟨h3,h2.trans S h4⟩
end
end Go.Sy
namespace Go.Sy
section
variable {P:Program} {S:aK}
variable {w0:World} {M0 s0:St} {dq:List Deferred} {env:Env S.C} {a:Act} {w:World} {μ:Nat→Loc}
theorem Tk.cY {bx aa:Bx S.C} (h:Tk S bx aa) {i:Nat} (hl:live S aa i):aa i=bx i:=by
 rcases h i with e | ⟨e,_⟩ | ⟨e,l,_,e'⟩
 · exact e
 · unfold live at hl; rw [e] at hl; exact hl.elim
 · unfold live at hl; rw [e'] at hl; exact hl.elim
theorem ye (hS:bY S) (h:Inv P S w0 M0 s0 dq env a w μ) {bx:Bx S.C} (hk:Tk S env.bx bx) {b:Nat} {e:Ty} {l:List (e.den S.C)} (hb:bx b=some (.bn e l)) {v:Value}
 (hv:bl P S w (ay S w0 M0 s0 env.bx μ w) μ env.bx (.az b) v): ∃ n,av S w (bC S w0 M0 s0 env.bx bx μ w) n (.sl e) l [v]:=by
 have hl:=gZ S w0 M0 s0 env.bx bx μ w
 have key:(∃ n, ∀ (i:Nat) (x:e.den S.C),l[i]? =some x→ ∃ ds,ds.length=Ty.sz S e∧At w (bC S w0 M0 s0 env.bx bx μ w) (μ b).b ((μ b).o+i*Ty.sz S e) ds∧av S w (bC S w0 M0 s0 env.bx bx μ w) n e x ds)→
  (∃ a cap,v= .slice a l.length cap∧gJ (μ b) a l.length cap (Ty.sz S e))→ ∃ n,av S w (bC S w0 M0 s0 env.bx bx μ w) n (.sl e) l [v]:=by
  rintro ⟨n,hel⟩ ⟨a,cap,rfl,ha⟩
  refine ⟨n+1,a,cap,rfl,ha.fits, ?_⟩
  by_cases hn:(μ b).nil=true
  · exact .inl (by have :=ha.isNil hn; have :=ha.dU; have :=ha.fits; show l.length=0; omega)
  · refine .inr ⟨(μ b).b,(μ b).o,by rw [ha.addr]; simp [hn],fun i x hi=> ?_⟩
    exact hel i x hi
 have bound:(∀ (i:Nat) (x:e.den S.C),l[i]? =some x→ ∃ ds,ds.length=Ty.sz S e∧At w (bC S w0 M0 s0 env.bx bx μ w) (μ b).b ((μ b).o+i*Ty.sz S e) ds∧ ∃ n,av S w (bC S w0 M0 s0 env.bx bx μ w) n e x ds)→
  ∃ n, ∀ (i:Nat) (x:e.den S.C),l[i]? =some x→ ∃ ds,ds.length=Ty.sz S e∧At w (bC S w0 M0 s0 env.bx bx μ w) (μ b).b ((μ b).o+i*Ty.sz S e) ds∧av S w (bC S w0 M0 s0 env.bx bx μ w) n e x ds:=by
  intro hall
  have : ∀ m,m≤l.length→ ∃ n, ∀ (i:Nat) (x:e.den S.C),i<m→l[i]? =some x→ ∃ ds,ds.length=Ty.sz S e∧At w (bC S w0 M0 s0 env.bx bx μ w) (μ b).b ((μ b).o+i*Ty.sz S e) ds∧av S w (bC S w0 M0 s0 env.bx bx μ w) n e x ds:=by
   intro m
   induction m with
   | zero=>exact fun _=>⟨0,fun i x hi=>by omega⟩
   | succ m ih=>
    intro hm
    obtain ⟨n,hn⟩:=ih (by omega)
    obtain ⟨ds,h1,h2,n',h3⟩:=hall m l[m] (by simp)
    refine ⟨max n n',fun i x hi hx=> ?_⟩
    by_cases e:i=m
    · subst e
      have :x=l[i]:=by simpa [List.getElem?_eq_getElem (show i<l.length by omega)] using hx.symm
      subst this
      exact ⟨ds,h1,h2,h3.up S (by omega)⟩
    · obtain ⟨ds,h1,h2,h3⟩:=hn i x (by omega) hx
      exact ⟨ds,h1,h2,h3.up S (by omega)⟩
  obtain ⟨n,hn⟩:=this l.length (Nat.le_refl _)
  exact ⟨n,fun i x hx=>hn i x (List.getElem?_eq_some_iff.1 hx).1 hx⟩
 rcases hk b with e1 | ⟨e1,_⟩ | ⟨e',l',e1,e2⟩
 · rw [hb] at e1
   obtain ⟨_,_,h3⟩:=h.bw b _ e1.symm
   refine key (bound fun i x hi=> ?_) (hv.2 e l (.inr e1.symm))
   obtain ⟨ds,d1,d2,n,d3⟩:=h3 i x hi
   exact ⟨ds,d1,d2.later hl,n,d3.mono S hl (Nat.le_refl _)⟩
 · rw [hb] at e1; cases e1
 · rw [hb] at e2
   cases e2
   have bp:live S env.bx b:=cO.live S e1
   have ft: ∀ b' o',(μ b).au b' o'→bC S w0 M0 s0 env.bx bx μ w b' o':=fun b' o' fH=>
    ⟨(ju P S (h.bw b) (h.ext b bp) bp fH).1,(h.own b bp _ _ fH).elim (fun h=> .inr (.inr h)) (fun h=> .inr (.inl h)),fun k hk'=>by
     by_cases ek:k=b
     · subst ek; exact .inl ⟨e,l,hb⟩
     · exact .inr fun hf=>h.cM k b ek hk' bp _ _ hf fH⟩
   have two:=cO.two S e1
   clear e1
   rcases two with e1 | ⟨u,l',e1,e3⟩
   · obtain ⟨g1,g2,g3,g4,h3⟩:=h.bw b _ e1
     refine key (bound fun i x hi=> ?_) (hv.2 e l (.inl e1))
     obtain ⟨ds,d1,d2,n,d3⟩:=h3 i x hi
     refine ⟨ds,d1,fun j u hj=>⟨d2 j u hj,ft _ _ (.inl ?_)⟩,n,d3.mono S hl (Nat.le_refl _)⟩
     exact kK g1 g3 (List.getElem?_eq_some_iff.1 hi).1 (by have :=(List.getElem?_eq_some_iff.1 hj).1; omega)
   · cases e3
     obtain ⟨g1,g2,g3,g4,n,Ms,g5,g6⟩:=h.bw b _ e1
     refine key (bound fun i x hi=> ?_) (hv.1.2 u _ none e1)
     obtain ⟨y,ds,d1,d2,d3,d4⟩:=g6.2.2.2 i x hi (by simp)
     obtain ⟨m,hm⟩:=vF (s':=bC S w0 M0 s0 env.bx bx μ w) hS.flat (fun u l M cs q1 q2=>bX.rep hS.flat q1 q2) d1 (fun b' o' q=>q.elim (fun q=>(hl b' o' q).1) fun q=>ft _ _ (.inr ((g5 _ _).2 ⟨i,q⟩))) d4
     refine ⟨ds,d2,fun j v hj=>⟨d3 j v hj,ft _ _ (.inl ?_)⟩,m,hm⟩
     exact kK g1 g3 (List.getElem?_eq_some_iff.1 hi).1 (by have :=(List.getElem?_eq_some_iff.1 hj).1; omega)
theorem w_ (hS:bY S) (h:Inv P S w0 M0 s0 dq env a w μ) {bx aa:Bx S.C} (hk:Tk S env.bx bx) (hk':Tk S bx aa) {t:Ty} (ht:aZ t=false) {V:V S.C} {v:Value} {x:t.den S.C}
 (hf: ∀ b e (l:List (e.den S.C)),V= .az b→cO S (bx b) e l→aa b=some (.bn e l))
 (hv:bl P S w (ay S w0 M0 s0 env.bx μ w) μ env.bx V v) (hx:cF S bx t V=some x): ∃ n,av S w (bC S w0 M0 s0 env.bx aa μ w) n t x [v]:=by
 have hl:=gZ S w0 M0 s0 env.bx aa μ w
 have hd: ∀ (u:Ty) (y:u.den S.C),bT S w (ay S w0 M0 s0 env.bx μ w) u y v→dj S u t y=some x→ ∃ n,av S w (bC S w0 M0 s0 env.bx aa μ w) n t x [v]:=by
  intro u y hr hc
  obtain ⟨rfl,rfl⟩:=dm hc
  obtain ⟨h1,n,hn⟩:=hr
  rw [av.jV h1 ht] at hn
  exact ⟨n,hn.mono S hl (Nat.le_refl _)⟩
 cases V with
 | d u y=>exact hd u y hv hx
 | pr p i=>
  obtain ⟨rfl,rfl⟩:=dm hx
  cases hv
  exact ⟨1,rfl⟩
 | aP b e l=>exact hd (.sl e) l hv.1 hx
 | b8=>
  cases t with
  | sl e=>
   cases hx
   cases hv
   exact ⟨1,none,0,rfl,Nat.le_refl _, .inl rfl⟩
  | _=>cases hx
 | az b=>
  have ok: ∀ (e:Ty) (l:List (e.den S.C)),aa b=some (.bn e l)→dj S (.sl e) t l=some x→ ∃ n,av S w (bC S w0 M0 s0 env.bx aa μ w) n t x [v]:=by
   intro e l hb hc
   obtain ⟨rfl,rfl⟩:=dm hc
   exact ye hS h (hk.trans S hk') hb hv
  simp only [cF] at hx
  split at hx
  · rename_i e l hb; exact ok e l (hf b e l rfl (by rw [hb]; exact .arr e l)) hx
  · rename_i e l hb
    refine ok e l ?_ hx
    rcases hk' b with e1 | ⟨_,e1⟩ | ⟨_,_,e1,_⟩
    · exact e1.trans hb
    · unfold live at e1; rw [hb] at e1; exact e1.elim
    · rw [hb] at e1; cases e1
  · rename_i u l hb; exact ok (.st u) l (hf b (.st u) l rfl (by rw [hb]; exact .aF u l)) hx
  · cases hx
 | _=>cases hx
theorem F9 (hS:bY S) (h:Inv P S w0 M0 s0 dq env a w μ) {bx aa:Bx S.C} (hk:Tk S env.bx bx) (hk':Tk S bx aa): ∀ (ts:List Ty) (hts:ts.all (fun t=> !aZ t)=true) {vs:List (V S.C)} {cs:List Value} {x:ag S.C ts},
 (∀ V ∈ vs.take ts.length, ∀ b e (l:List (e.den S.C)),V= .az b→cO S (bx b) e l→aa b=some (.bn e l))→
 aB P S w (ay S w0 M0 s0 env.bx μ w) μ env.bx vs cs→gH S bx ts vs=some x→
 ∃ n,a_ S (fun t x cs=>av S w (bC S w0 M0 s0 env.bx aa μ w) n t x cs) ts x (cs.take ts.length)
 | [],_,_,cs,_,_,_,_=>⟨0,by simp [a_]⟩
 | t::ts,hts,[],_,_,_,_,hx=>by simp [gH] at hx
 | t::ts,hts,V::vs,cs,x,hf,⟨c,r,hcs,hv,hr⟩,hx=>by
  simp only [List.all_cons,Bool.and_eq_true,Bool.not_eq_true'] at hts
  simp only [gH] at hx
  obtain ⟨y,hy,hx⟩:=Option.bind_eq_some_iff.1 hx
  obtain ⟨z,hz,hx⟩:=Option.bind_eq_some_iff.1 hx
  cases hx
  obtain ⟨n,hn⟩:=w_ hS h hk hk' hts.1 (hf V (by simp)) hv hy
  obtain ⟨m,hm⟩:=F9 hS h hk hk' ts hts.2 (fun V hV=>hf V (by simp [hV])) hr hz
  refine ⟨max n m,c,r.take ts.length,by simp [hcs], ?_, ?_⟩
  · rw [show ag.head (ag.cons y z)=y from by cases ts <;> rfl]
    exact hn.up S (by omega)
  · rw [show ag.tail (ag.cons y z)=z from by cases ts <;> rfl]
    exact a_.mono S (fun t x cs hr=>hr.up S (by omega)) _ _ _ hm
theorem zb (hS:bY S) (h:Inv P S w0 M0 s0 dq env a w μ) {bx aa:Bx S.C} (hk:Tk S env.bx bx) (hk':Tk S bx aa) {t:Ty} {vs:List (V S.C)} {cs:List Value} {x:t.den S.C}
 (hf: ∀ V ∈ vs.take (Ty.sz S t), ∀ b e (l:List (e.den S.C)),V= .az b→cO S (bx b) e l→aa b=some (.bn e l))
 (hv:aB P S w (ay S w0 M0 s0 env.bx μ w) μ env.bx vs cs) (hx:gQ S bx t vs=some x):
 ∃ n,av S w (bC S w0 M0 s0 env.bx aa μ w) n t x (cs.take (Ty.sz S t)):=by
 have one:aZ t=false→Ty.sz S t=1→(∃ V r,vs=V::r∧cF S bx t V=some x)→ ∃ n,av S w (bC S w0 M0 s0 env.bx aa μ w) n t x (cs.take (Ty.sz S t)):=by
  rintro ht h1 ⟨V,vs',rfl,hx1⟩
  rw [h1]
  rw [h1] at hf
  obtain ⟨c,r,hcs,hv,hr⟩:=hv
  subst hcs
  exact w_ hS h hk hk' ht (hf V (by simp)) hv hx1
 cases t with
 | st u=>
  simp only [gQ] at hx
  obtain ⟨y,hy,hx⟩:=Option.bind_eq_some_iff.1 hx
  cases hx
  obtain ⟨n,hn⟩:=F9 hS h hk hk' (S.F u) (hS.flat u) hf hv hy
  refine ⟨n+1, ?_⟩
  show a_ S _ (S.F u) (S.ex u (S.im u y)) _
  rw [hS.kL]
  exact hn
 | int k=>exact one rfl rfl (by cases vs with | nil=>cases hx | cons V r=>exact ⟨V,r,rfl,hx⟩)
 | bool=>exact one rfl rfl (by cases vs with | nil=>cases hx | cons V r=>exact ⟨V,r,rfl,hx⟩)
 | str=>exact one rfl rfl (by cases vs with | nil=>cases hx | cons V r=>exact ⟨V,r,rfl,hx⟩)
 | pt=>exact one rfl rfl (by cases vs with | nil=>cases hx | cons V r=>exact ⟨V,r,rfl,hx⟩)
 | sl e=>exact one rfl rfl (by cases vs with | nil=>cases hx | cons V r=>exact ⟨V,r,rfl,hx⟩)
theorem CL {bx:Bx S.C} {b:Nat} {e:Ty} {l:List (e.den S.C)} (hb:cO S (bx b) e l):Sy.cn S bx (.az b)= [(b, .bn e l)]:=by
 rcases cO.two S hb with h | ⟨u,l',h,e⟩
 · simp only [Sy.cn,h]
 · cases e; simp only [Sy.cn,h]
theorem yc (bx cm:Bx S.C): ∀ (vs:List (V S.C)) (V:V S.C) (b:Nat) (e:Ty) (l:List (e.den S.C)),V ∈ vs→V= .az b→cO S (bx b) e l→
 (∀ i,cm i=bx i∨ ∃ e l,cO S (bx i) e l∧cm i=some (.bn e l))→ah cm (vs.flatMap (cn S bx)) b=some (.bn e l)
 | [],_,_,_,_,h,_,_,_=>by simp at h
 | W::vs,V,b,e,l,h,hV,hb,h0=>by
  simp only [List.flatMap_cons,fu]
  obtain ⟨h1,_⟩:=CJ bx cm h0 W
  rcases List.mem_cons.1 h with rfl | h
  · subst hV
    have e1:ah cm (cn S bx (.az b)) b=some (.bn e l):=by
     rw [CL hb]
     exact aI _ _ _
    have :=(rY bx vs _ h1).1 b
    rcases this with e2 | ⟨e',l',e2,e3⟩
    · exfalso
      have :=(rY bx vs _ h1).2 b
      rw [e2,e1] at this
      generalize bx b=X at hb this
      cases hb <;> · rcases this with h | ⟨h,_⟩ | ⟨_,_,h,_⟩ <;> cases h
    · rw [e3]
      generalize bx b=X at hb e2
      cases hb <;> cases e2 <;> rfl
  · exact yc bx _ vs V b e l h hV hb h1
theorem uI (hS:bY S) (h:Inv P S w0 M0 s0 dq env a w μ) {bx:Bx S.C} (hk:Tk S env.bx bx) {t:Ty} {V:V S.C} {v:Value} {x:t.den S.C}
 (hv:RV P S w (ay S w0 M0 s0 env.bx μ w) μ env.bx V v) (hx:datum S bx t V=some x):
 Tk S bx (ah bx (cQ S bx V))∧bT S w (bC S w0 M0 s0 env.bx (ah bx (cQ S bx V)) μ w) t x v:=by
 have hl:=gZ S w0 M0 s0 env.bx (ah bx (cQ S bx V)) μ w
 have one: ∀ (W:Sy.V S.C),V=W→cQ S bx V=cn S bx W→bl P S w (ay S w0 M0 s0 env.bx μ w) μ env.bx W v→aZ t=false→cF S bx t W=some x→
  Tk S bx (ah bx (cQ S bx V))∧bT S w (bC S w0 M0 s0 env.bx (ah bx (cQ S bx V)) μ w) t x v:=by
  intro W hW hfr hv ht hx
  have eS:Tk S bx (ah bx (cQ S bx V)):=by rw [hfr]; exact Tk.cn bx W
  refine ⟨eS, ?_⟩
  obtain ⟨n,hn⟩:=w_ hS h hk eS ht (fun b e l hm hb=>by
   rw [hfr]
   subst hm
   rw [CL hb]
   exact aI _ _ _) hv hx
  refine ⟨?_,n, ?_⟩
  · rw [ht]
    cases n with
    | zero=>exact hn.elim
    | succ n=>cases t with
     | int k=>simp [av] at hn; subst hn; rfl
     | bool=>simp [av] at hn; subst hn; rfl
     | str=>simp [av] at hn; subst hn; rfl
     | pt=>simp [av] at hn; subst hn; rfl
     | sl e=>obtain ⟨a,cap,h1,_⟩:=hn; simp at h1; subst h1; rfl
     | st u=>simp [aZ] at ht
  · have :v.cells.toList= [v]:=by
     cases n with
     | zero=>exact hn.elim
     | succ n=>cases t with
      | int k=>simp [av] at hn; subst hn; rfl
      | bool=>simp [av] at hn; subst hn; rfl
      | str=>simp [av] at hn; subst hn; rfl
      | pt=>simp [av] at hn; subst hn; rfl
      | sl e=>obtain ⟨a,cap,h1,_⟩:=hn; simp at h1; subst h1; rfl
      | st u=>simp [aZ] at ht
    rw [this]; exact hn
 cases V with
 | agg u vs=>
  obtain ⟨cs,rfl,hlen,_,hvs⟩:=hv
  cases t with
  | st u'=>
   simp only [datum] at hx
   split at hx
   · rename_i e
     subst e
     have hfz:=rY (S:=S) bx vs bx (fun i=> .inl rfl)
     obtain ⟨n,hn⟩:=zb hS h hk hfz.2 (t:= .st u) (vs:=vs) (fun V hV b e l hm hb=>yc bx bx vs V b e l (List.mem_of_mem_take hV) hm hb (fun i=> .inl rfl)) hvs hx
     have hcl:=aB.length P S hvs
     refine ⟨hfz.2,rfl,n, ?_⟩
     rw [show Ty.sz S (.st u)=cs.toList.length from by show (S.F u).length=_; rw [hcl,hlen]] at hn
     rw [List.take_length] at hn
     exact hn
   · cases hx
  | _=>cases hx
 | d u y=>
  cases t with
  | st u'=>
   obtain ⟨rfl,rfl⟩:=dm (show dj S u (.st u') y=some x from hx)
   exact ⟨Tk.refl S bx,bT.mono S hl hv⟩
  | int k=>exact one _ rfl rfl hv rfl hx
  | bool=>exact one _ rfl rfl hv rfl hx
  | str=>exact one _ rfl rfl hv rfl hx
  | pt=>exact one _ rfl rfl hv rfl hx
  | sl e=>exact one _ rfl rfl hv rfl hx
 | gG vs=>cases t <;> simp [datum,cF] at hx
 | fe f vs=>cases t <;> simp [datum,cF] at hx
 | undef=>cases t <;> simp [datum,cF] at hx
 | skip=>cases t <;> simp [datum,cF] at hx
 | pre b n=>cases t <;> simp [datum,cF] at hx
 | split b c=>cases t <;> simp [datum,cF] at hx
 | i_ c=>cases t <;> simp [datum,cF] at hx
 | win b i n=>cases t <;> simp [datum,cF] at hx
 | pr p i=>cases t with
  | st u'=>cases hx
  | _=>exact one _ rfl rfl hv rfl hx
 | aP b e l=>cases t with
  | st u'=>cases hx
  | _=>exact one _ rfl rfl hv rfl hx
 | az b=>cases t with
  | st u'=>cases hx
  | _=>exact one _ rfl rfl hv rfl hx
 | ptr b o=>cases t <;> simp [datum,cF] at hx
 | cj b n=>cases t <;> simp [datum,cF] at hx
 | err b=>cases t <;> simp [datum,cF] at hx
 | cG b i o=>cases t <;> simp [datum,cF] at hx
 | cH t' y=>cases t <;> simp [datum,cF] at hx
 | nil=>cases t <;> simp [datum,cF] at hx
 | b8=>cases t with
  | st u'=>cases hx
  | _=>exact one _ rfl rfl hv rfl hx
 | fv a r g=>cases t <;> simp [datum,cF] at hx
end
end Go.Sy
namespace Go.Sy
section
variable {P:Program} {S:aK}
variable {w0:World} {M0 s0:St} {dq:List Deferred} {env:Env S.C} {a:Act} {w:World} {μ:Nat→Loc}
def aS (S:aK) (env:Env S.C) (μ:Nat→Loc) (bx aa:Bx S.C) (M:St):Prop:=
 ∀ b o,M b o→ ∃ i,live S env.bx i∧live S bx i∧aa i=some .dead∧(μ i).au b o
theorem aS.none {bx aa:Bx S.C} {M:St} (h:b6 M):aS S env μ bx aa M:=fun b o hm=>(h b o hm).elim
theorem mN {bx aa:Bx S.C} (h:Tk S bx aa) {i:Nat} (hd:bx i=some .dead):aa i=some .dead:=by
 rcases h i with e | ⟨e,_⟩ | ⟨e,l,e1,_⟩
 · exact e.trans hd
 · exact e
 · rw [hd] at e1; cases e1
theorem aS.later {bx aa iD:Bx S.C} {M:St} (h:aS S env μ bx aa M) (hk:Tk S aa iD):aS S env μ bx iD M:=
 fun b o hm=>let ⟨i,h1,h2,h3,h4⟩:=h b o hm; ⟨i,h1,h2,mN hk h3,h4⟩
theorem aS.Cg {bx aa iD:Bx S.C} {M:St} (h:aS S env μ aa iD M) (hk:Tk S bx aa):aS S env μ bx iD M:=
 fun b o hm=>let ⟨i,h1,h2,h3,h4⟩:=h b o hm; ⟨i,h1,(dA S (hk.cY h2)).1 h2,h3,h4⟩
theorem aS.apart (h:Inv P S w0 M0 s0 dq env a w μ) {bx aa iD:Bx S.C} {M M':St} (h1:aS S env μ bx aa M) (h2:aS S env μ aa iD M'): ∀ b o,M b o→M' b o→False:=by
 intro b o hm hm'
 obtain ⟨i,a1,a2,a3,a4⟩:=h1 b o hm
 obtain ⟨j,b1,b2,b3,b4⟩:=h2 b o hm'
 refine h.cM i j (fun e=> ?_) a1 b1 b o a4 b4
 subst e
 unfold live at b2
 rw [a3] at b2
 exact b2
theorem aS.union {bx aa iD:Bx S.C} {M M':St} (h1:aS S env μ bx aa M) (h2:aS S env μ aa iD M') (hk:Tk S bx aa) (hk':Tk S aa iD):aS S env μ bx iD (fun b o=>M b o∨M' b o):=
 fun b o hm=>hm.elim (h1.later hk' b o) (h2.Cg hk b o)
theorem FT (hS:bY S) (h:Inv P S w0 M0 s0 dq env a w μ) {bx:Bx S.C} (hk:Tk S env.bx bx) {c:CK} {vs:List (V S.C)} {cs:List Value} {x:c.den S.C} {us:aA S.C}
 (hv:aB P S w (ay S w0 M0 s0 env.bx μ w) μ env.bx vs cs) (hx:cI S bx c vs=some (x,us)):
 Tk S bx (ah bx us)∧ ∃ M,jQ S w (bC S w0 M0 s0 env.bx (ah bx us) μ w) M c x (cs.take (CK.sz S c))∧aS S env μ bx (ah bx us) M∧(cs.take (CK.sz S c)).length=CK.sz S c:=by
 cases c with
 | data t=>
  simp only [cI] at hx
  obtain ⟨y,hy,hx⟩:=Option.bind_eq_some_iff.1 hx
  cases hx
  have hfz:=rY (S:=S) bx (vs.take (Ty.sz S t)) bx (fun i=> .inl rfl)
  obtain ⟨n,hn⟩:=zb hS h hk hfz.2 (fun V hV b e l hm hb=>yc bx bx _ V b e l hV hm hb (fun i=> .inl rfl)) hv hy
  exact ⟨hfz.2,fun _ _=>False,⟨fun _ _ h=>h,n,hn⟩,aS.none (fun _ _ h=>h),hn.length⟩
 | aP e=>
  simp only [cI] at hx
  split at hx
  · rename_i b e' l r
    split at hx
    · rename_i hb
      obtain ⟨y,hy,hx⟩:=Option.bind_eq_some_iff.1 hx
      cases hx
      obtain ⟨he,rfl⟩:=dm hy
      cases he
      obtain ⟨c,r',rfl,ct,dV⟩:=hv
      have hlb:live S bx b:=by unfold live; rw [hb]; trivial
      have hb0:env.bx b=some .tail:=(hk.cY hlb).symm.trans hb
      have eS:Tk S bx (ah bx [(b, .dead)]):=Tk.ki hlb
      obtain ⟨a',cap,rfl,sH⟩:=ct.2 hb0
      obtain ⟨_,n,hn⟩:=ct.1
      refine ⟨eS,(μ b).bI,⟨a',cap,μ b,rfl,⟨n,hn.mono S (gZ S w0 M0 s0 env.bx _ μ w) (Nat.le_refl _)⟩,sH,h.bw b _ hb0,fun _ _=>Iff.rfl⟩,fun b' o hm=>⟨b,(dA S (hk.cY hlb)).1 hlb,hlb,aI _ _ _, .inl hm⟩,rfl⟩
    · cases hx
  · rename_i r
    cases hx
    obtain ⟨c,r',rfl,ct,dV⟩:=hv
    cases ct
    exact ⟨Tk.refl S bx,fun _ _=>False,⟨none,0,⟨0,0,0,0,true,fun _ _=>False⟩,rfl,⟨1,none,0,rfl,Nat.le_refl _, .inl rfl⟩, .inl ⟨rfl,rfl,rfl⟩,fun j hj=>absurd hj (Nat.not_lt_zero j),fun b o=>⟨fun h=>h.elim,fun h=>by have h1:=h.2.1; have h2:=h.2.2; simp at h2⟩⟩,aS.none (fun _ _ h=>h),rfl⟩
  · cases hx
 | az e=>
  simp only [cI] at hx
  split at hx
  · rename_i b r
    split at hx
    · rename_i e' l hb
      obtain ⟨y,hy,hx⟩:=Option.bind_eq_some_iff.1 hx
      cases hx
      obtain ⟨he,rfl⟩:=dm hy
      cases he
      obtain ⟨c,r',rfl,ct,dV⟩:=hv
      have hlb:live S bx b:=by unfold live; rw [hb]; trivial
      have hb0:env.bx b=some (.arr e l):=(hk.cY hlb).symm.trans hb
      have eS:Tk S bx (ah bx [(b, .dead)]):=Tk.ki hlb
      obtain ⟨a',cap,rfl,hao⟩:=ct.2 e l (.inl hb0)
      obtain ⟨g1,g2,g3,g4,g5⟩:=h.bw b _ hb0
      refine ⟨eS,(μ b).bI,⟨a',cap,μ b,rfl,hao,g4,fun _ _=>Iff.rfl,fun i z hi=> ?_⟩,fun b' o hm=>⟨b,(dA S (hk.cY hlb)).1 hlb,hlb,aI _ _ _, .inl hm⟩,rfl⟩
      obtain ⟨ds,d1,d2,n,d3⟩:=g5 i z hi
      exact ⟨ds,d1,d2,n,d3.mono S (gZ S w0 M0 s0 env.bx _ μ w) (Nat.le_refl _)⟩
    · cases hx
  · rename_i b n r
    split at hx
    · rename_i e' l hb
      obtain ⟨y,hy,hx⟩:=Option.bind_eq_some_iff.1 hx
      cases hx
      obtain ⟨he,rfl⟩:=dm hy
      cases he
      obtain ⟨c,r',rfl,ct,dV⟩:=hv
      have hlb:live S bx b:=by unfold live; rw [hb]; trivial
      have hb0:env.bx b=some (.arr e l):=(hk.cY hlb).symm.trans hb
      have eS:Tk S bx (ah bx [(b, .dead)]):=Tk.ki hlb
      obtain ⟨hn0,hnl,a',cap,rfl,hao⟩:=ct.2 e l hb0
      obtain ⟨g1,g2,g3,g4,g5⟩:=h.bw b _ hb0
      have hlen:(List.take n.toNat l).length=n.toNat:=by rw [List.length_take]; omega
      refine ⟨eS,(μ b).bI,⟨a',cap,μ b, ?_, ?_,g4,fun _ _=>Iff.rfl,fun i z hi=> ?_⟩,fun b' o hm=>⟨b,(dA S (hk.cY hlb)).1 hlb,hlb,aI _ _ _, .inl hm⟩,rfl⟩
      · show [_]= [_]
        rw [hlen]
      · rw [hlen]; exact hao
      · have hi':l[i]? =some z:=by
         rw [List.getElem?_take] at hi
         split at hi
         · exact hi
         · cases hi
        obtain ⟨ds,d1,d2,n,d3⟩:=g5 i z hi'
        exact ⟨ds,d1,d2,n,d3.mono S (gZ S w0 M0 s0 env.bx _ μ w) (Nat.le_refl _)⟩
    · cases hx
  · rename_i r
    cases hx
    obtain ⟨c,r',rfl,ct,dV⟩:=hv
    cases ct
    exact ⟨Tk.refl S bx,fun _ _=>False,⟨none,0,⟨0,0,0,0,true,fun _ _=>False⟩,rfl,⟨rfl,rfl,by simp,fun _=>rfl,Nat.le_refl _⟩,fun j hj=>absurd hj (Nat.not_lt_zero j),fun b o=>⟨fun h=>h.elim,fun h=>by have h1:=h.2.1; have h2:=h.2.2; simp at h2⟩,fun i x hi=>by simp at hi⟩,aS.none (fun _ _ h=>h),rfl⟩
  · cases hx
 | aF u=>
  simp only [cI] at hx
  split at hx
  · rename_i b r
    split at hx
    · rename_i u' l hb
      obtain ⟨y,hy,hx⟩:=Option.bind_eq_some_iff.1 hx
      cases hx
      obtain ⟨he,rfl⟩:=dm hy
      cases he
      obtain ⟨c,r',rfl,ct,dV⟩:=hv
      have hlb:live S bx b:=by unfold live; rw [hb]; trivial
      have hb0:env.bx b=some (.aF u l none):=(hk.cY hlb).symm.trans hb
      have eS:Tk S bx (ah bx [(b, .dead)]):=Tk.ki hlb
      obtain ⟨a',cap,rfl,hao⟩:=ct.1.2 u l none hb0
      obtain ⟨g1,g2,g3,g4,n,Ms,g5,g6⟩:=h.bw b _ hb0
      refine ⟨eS,(μ b).au,⟨n+1,a',cap,μ b,Ms,rfl,hao,g4,fun b' o=>⟨fun q=>q.imp id (g5 b' o).1,fun q=>q.imp id (g5 b' o).2⟩, ?_⟩,fun b' o hm=>⟨b,(dA S (hk.cY hlb)).1 hlb,hlb,aI _ _ _,hm⟩,rfl⟩
      exact ep.step (gZ S w0 M0 s0 env.bx _ μ w) (fun u l M cs q1 q2=>bX.step (gZ S w0 M0 s0 env.bx _ μ w) (Nat.le_refl _) q1 q2) (Kept.refl _ _) g1 g3 g6
    · cases hx
  · rename_i r
    cases hx
    obtain ⟨c,r',rfl,ct,dV⟩:=hv
    cases ct
    exact ⟨Tk.refl S bx,fun _ _=>False,⟨1,none,0,⟨0,0,0,0,true,fun _ _=>False⟩,fun _ _ _=>False,rfl,⟨rfl,rfl,by simp,fun _=>rfl,Nat.le_refl _⟩,fun j hj=>absurd hj (Nat.not_lt_zero j),fun b o=>⟨fun h=>h.elim,fun h=>h.elim (fun h=>by have h1:=h.2.1; have h2:=h.2.2; simp at h2) fun ⟨_,h⟩=>h⟩,
     fun _ _ _ _ h=>h,fun _ _ _ h=>h.elim,fun _ _ _ _ _ h=>h.elim,fun k x hx=>by simp at hx⟩,aS.none (fun _ _ h=>h),rfl⟩
  · cases hx
theorem tS (hS:bY S) (h:Inv P S w0 M0 s0 dq env a w μ): ∀ (ps:List CK) {bx:Bx S.C} (hk:Tk S env.bx bx) {vs:List (V S.C)} {cs:List Value} {x:aJ S.C ps} {us:aA S.C},
 aB P S w (ay S w0 M0 s0 env.bx μ w) μ env.bx vs cs→cy S bx ps vs=some (x,us)→
 Tk S bx (ah bx us)∧ ∃ M,dx S w (bC S w0 M0 s0 env.bx (ah bx us) μ w) M ps x (cs.take (CK.bJ S ps))∧aS S env μ bx (ah bx us) M∧(cs.take (CK.bJ S ps)).length=CK.bJ S ps
 | [],bx,hk,vs,cs,x,us,hv,hx=>by
  cases hx
  exact ⟨Tk.refl S bx,fun _ _=>False,⟨fun _ _ h=>h,by simp [CK.bJ]⟩,aS.none (fun _ _ h=>h),by simp [CK.bJ]⟩
 | c::ps,bx,hk,vs,cs,x,us,hv,hx=>by
  simp only [cy] at hx
  obtain ⟨⟨y,u1⟩,hy,hx⟩:=Option.bind_eq_some_iff.1 hx
  obtain ⟨⟨z,u2⟩,hz,hx⟩:=Option.bind_eq_some_iff.1 hx
  cases hx
  obtain ⟨k1,M1,r1,f1,n1⟩:=FT hS h hk hv hy
  obtain ⟨k2,M2,r2,f2,n2⟩:=tS hS h ps (hk.trans S k1) (hv.drop P S (CK.sz S c)) hz
  dsimp only at *
  rw [fu]
  refine ⟨k1.trans S k2,fun b o=>M1 b o∨M2 b o,⟨M1,M2,cs.take (CK.sz S c),(cs.drop (CK.sz S c)).take (CK.bJ S ps),⟨fun _ _=>Iff.rfl,aS.apart h f1 f2⟩, ?_,n1, ?_, ?_⟩,aS.union f1 f2 k1 k2, ?_⟩
  · rw [CK.bJ,List.take_add]
  · rw [show aJ.head (aJ.cons y z)=y from by cases ps <;> rfl]
    exact r1.mono S (oX S k2)
  · rw [show aJ.tail (aJ.cons y z)=z from by cases ps <;> rfl]
    exact r2
  · rw [CK.bJ,List.take_add,List.length_append,n1,n2]
theorem jM {w:World} {b o n o' n':Nat} (h:w.there b o n) (h1:o≤o') (h2:o'+n'≤o+n):w.there b o' n':=fun j hj=>by
 have :=h (o' - o+j) (by omega)
 rw [show o+(o' - o+j)=o'+j from by omega] at this
 exact this
theorem zV {w:World} {b o:Nat} {cs:List Value} (h:w.rangeAt b o cs) (k:Nat):w.rangeAt b (o+k) (cs.drop k):=fun j v hj=>by
 rw [Nat.add_assoc]
 exact h (k+j) v (by simpa using hj)
theorem EF {w:World} {b o:Nat} {cs:List Value} (h:w.rangeAt b o cs) (k:Nat):w.rangeAt b o (cs.take k):=fun j v hj=>by
 rw [List.getElem?_take] at hj
 split at hj
 · exact h j v hj
 · cases hj
theorem zz (hS:bY S) (h:Inv P S w0 M0 s0 dq env a w μ) {bx:Bx S.C} (hk:Tk S env.bx bx) {b off:Nat} {ws:List (V S.C)} (hb:bx b=some (.cells ws)) {ps:List CK} {x:aJ S.C ps} {us:aA S.C} {v:Value}
 (hv:bl P S w (ay S w0 M0 s0 env.bx μ w) μ env.bx (.ptr b off) v) (hx:cy S (ai bx b (some .dead)) ps (ws.drop off)=some (x,us)):
 Tk S bx (ah bx ((b, .dead)::us))∧ ∃ M,dQ S w (bC S w0 M0 s0 env.bx (ah bx ((b, .dead)::us)) μ w) M ps x v∧aS S env μ bx (ah bx ((b, .dead)::us)) M:=by
 have hlb:live S bx b:=by unfold live; rw [hb]; trivial
 have hb0:env.bx b=some (.cells ws):=(hk.cY hlb).symm.trans hb
 have hl0:live S env.bx b:=(dA S (hk.cY hlb)).1 hlb
 have k1:Tk S bx (ai bx b (some .dead)):=Tk.ki hlb
 obtain ⟨g1,g2,g3,cs,g4,g5⟩:=h.bw b _ hb0
 obtain ⟨k2,M2,r2,f2,n2⟩:=tS hS h ps (hk.trans S k1) (g5.drop P S off) hx
 have sN:v=_:=hv
 subst sN
 have hlen:=aB.length P S g5
 have hsz:off+CK.bJ S ps≤cs.length∨CK.bJ S ps=0:=by
  rw [List.length_take,List.length_drop] at n2
  omega
 refine ⟨k1.trans S k2,fun b' o'=>(b'=(μ b).b∧(μ b).o+off≤o'∧o'<(μ b).o+off+((cs.drop off).take (CK.bJ S ps)).length)∨M2 b' o',⟨_,_,(cs.drop off).take (CK.bJ S ps),M2,rfl, ?_,EF (zV g4 off) _,⟨fun _ _=>Iff.rfl, ?_⟩,r2⟩, ?_⟩
 · rcases hsz with hsz | hsz
   · exact jM g3 (by omega) (by rw [n2]; omega)
   · intro j hj; rw [n2,hsz] at hj; exact absurd hj (Nat.not_lt_zero _)
 · rintro b' o' ⟨rfl,h1,h2⟩ hm
   obtain ⟨i,a1,a2,a3,a4⟩:=f2 _ _ hm
   refine h.cM b i (fun e=> ?_) hl0 a1 _ _ (.inl ⟨rfl,by omega, ?_⟩) a4
   · subst e
     unfold live at a2
     rw [aI] at a2
     exact a2
   · rw [n2] at h2
     rcases hsz with hsz | hsz <;> omega
 · rintro b' o' (⟨rfl,h1,h2⟩ | hm)
   · refine ⟨b,hl0,hlb,mN k2 (aI _ _ _), .inl ⟨rfl,by omega, ?_⟩⟩
     rw [n2] at h2
     rcases hsz with hsz | hsz <;> omega
   · exact f2.Cg k1 _ _ hm
theorem BQ (hS:bY S) (h:Inv P S w0 M0 s0 dq env a w μ) {bx:Bx S.C} (hk:Tk S env.bx bx) {t:Ty} {V:V S.C} {v:Value} {x:t.den S.C}
 (hv:bl P S w (ay S w0 M0 s0 env.bx μ w) μ env.bx V v) (hx:kH S bx t V=some x):kF S w (bC S w0 M0 s0 env.bx bx μ w) t x v:=by
 have hl:=gZ S w0 M0 s0 env.bx bx μ w
 cases V with
 | ptr b off=>
  cases off with
  | succ n=>cases hx
  | zero=>
   simp only [kH] at hx
   split at hx
   · rename_i ws hb
     have hb0:env.bx b=some (.bH ws):=by
      rcases hk b with e | ⟨e,_⟩ | ⟨e,l,_,e1⟩
      · exact e.symm.trans hb
      · rw [hb] at e; cases e
      · rw [hb] at e1; cases e1
     obtain ⟨g1,cs,g2,g3⟩:=h.bw b _ hb0
     have sN:v=_:=hv
     subst sN
     cases hnm:ws.all (D2 S) with
     | false=>rw [hnm] at hx; cases hx
     | true=>
     rw [hnm] at hx
     obtain ⟨n,hn⟩:=zb hS h hk (Tk.refl S bx) (t:=t) (vs:=ws) (fun V hV b' e l hm hb'=>by
      have :=(List.all_eq_true.1 hnm) V (List.mem_of_mem_take hV)
      subst hm
      cases this) g3 hx
     refine ⟨_,_,cs.take (Ty.sz S t),rfl,fun j u hj=> ?_,hn.length,n,hn⟩
     rw [List.getElem?_take] at hj
     split at hj
     · have :=(g2.later hl) j u hj
       simpa using this
     · cases hj
   · cases hx
 | cH u y=>
  obtain ⟨rfl,rfl⟩:=dm (show dj S u t y=some x from hx)
  exact kF.mono S hl hv
 | _=>cases hx
theorem xh (hS:bY S) (h:Inv P S w0 M0 s0 dq env a w μ) {bx:Bx S.C} (hk:Tk S env.bx bx): ∀ (ts:List Ty) {vs:List (V S.C)} {cs:List Value} {x:ag S.C ts},
 aB P S w (ay S w0 M0 s0 env.bx μ w) μ env.bx vs cs→caps S bx ts vs=some x→gr S w (bC S w0 M0 s0 env.bx bx μ w) ts x cs
 | [],[],cs,x,hv,_=>hv
 | [],_::_,_,_,_,hx=>by cases hx
 | _::_,[],_,_,_,hx=>by cases hx
 | t::ts,V::vs,cs,x,⟨c,r,hcs,h1,h2⟩,hx=>by
  simp only [caps] at hx
  obtain ⟨y,hy,hx⟩:=Option.bind_eq_some_iff.1 hx
  obtain ⟨z,hz,hx⟩:=Option.bind_eq_some_iff.1 hx
  cases hx
  refine ⟨c,r,hcs, ?_, ?_⟩
  · rw [show ag.head (ag.cons y z)=y from by cases ts <;> rfl]
    exact BQ hS h hk h1 hy
  · rw [show ag.tail (ag.cons y z)=z from by cases ts <;> rfl]
    exact xh hS h hk ts h2 hz
theorem ID (hS:bY S) (h:Inv P S w0 M0 s0 dq env a w μ) {bx:Bx S.C} (hk:Tk S env.bx bx) {fs:List (gu S)} (lT: ∀ e ∈ fs,gv P S e) {A R:List Ty} {V:V S.C} {v:Value} {g:ag S.C A→Option (ag S.C R)}
 (hv:RV P S w (ay S w0 M0 s0 env.bx μ w) μ env.bx V v) (hx:nV S fs bx A R V=some g):kE P S w (bC S w0 M0 s0 env.bx bx μ w) A R g v:=by
 have hl:=gZ S w0 M0 s0 env.bx bx μ w
 cases V with
 | fv A' R' g'=>
  simp only [nV] at hx
  split at hx
  · rename_i e1
    split at hx
    · rename_i e2
      subst e1 e2
      cases hx
      exact kE.mono P S hl hv
    · cases hx
  · cases hx
 | fe f vs=>
  obtain ⟨cs,rfl,hvs⟩:=hv
  simp only [nV] at hx
  obtain ⟨e,he,hx1⟩:=List.exists_of_findSome?_eq_some hx
  clear hx
  split at hx1
  · rename_i ef
    split at hx1
    · rename_i e1
      split at hx1
      · rename_i e2
        obtain ⟨y,hy,hx2⟩:=Option.bind_eq_some_iff.1 hx1
        clear hx1
        obtain ⟨f',A',c',R',sp⟩:=e
        dsimp only at *
        subst ef e1 e2
        have hx3:=Option.some.inj hx2
        subst hx3
        have Jk:=xh hS h hk _ hvs hy
        refine ⟨f', #[],cs,rfl,(lT _ he).1,fun w1 s1 hl1 yo x args z hargs hg=> ?_⟩
        have :=(lT _ he).2 w1 s1 x y z args cs.toList yo hargs (gr.mono hl1 _ _ _ Jk) hg
        rw [show #[]++args.toArray++cs=(args++cs.toList).toArray from by simp]
        exact this
      · cases hx1
    · cases hx1
  · cases hx1
 | _=>cases hx
theorem FZ (hS:bY S) (h:Inv P S w0 M0 s0 dq env a w μ) {bx:Bx S.C} (hk:Tk S env.bx bx) {ps:List CK} {b:Nat} {x:aJ S.C ps} {us:aA S.C} (hx:fY S bx ps b=some (x,us)):
 Tk S bx (ah bx us)∧ ∃ M,dQ S w (bC S w0 M0 s0 env.bx (ah bx us) μ w) M ps x (.pointer (some ⟨(μ b).b,(μ b).o,none⟩))∧aS S env μ bx (ah bx us) M:=by
 unfold fY at hx
 split at hx
 · rename_i ws hb
   cases hw:Nat.beq ws.length (CK.bJ S ps) with
   | false=>rw [hw] at hx; cases hx
   | true=>
    rw [hw,cond_true] at hx
    obtain ⟨⟨y,u'⟩,hy,hx⟩:=Option.bind_eq_some_iff.1 hx
    cases hx
    exact zz hS h hk hb (show bl P S w (ay S w0 M0 s0 env.bx μ w) μ env.bx (.ptr b 0) _ from rfl) hy
 · cases hx
theorem Nx (hS:bY S) (h:Inv P S w0 M0 s0 dq env a w μ) {bx:Bx S.C} (hk:Tk S env.bx bx) {fs:List (gu S)} (lT: ∀ e ∈ fs,gv P S e) {k:K} {V:V S.C} {v:Value} {x:k.den S.C} {us:aA S.C}
 (hv:RV P S w (ay S w0 M0 s0 env.bx μ w) μ env.bx V v) (hx:bS S fs bx k V=some (x,us)):
 Tk S bx (ah bx us)∧ ∃ M,jR P S w (bC S w0 M0 s0 env.bx (ah bx us) μ w) M k x v∧aS S env μ bx (ah bx us) M:=by
 have ck: ∀ (c:CK),(∀ t,c≠ .data t)→CK.sz S c=1→ ∀ (y:c.den S.C),cI S bx c [V]=some (y,us)→Tk S bx (ah bx us)∧ ∃ M,(jQ S w (bC S w0 M0 s0 env.bx (ah bx us) μ w) M c y v.cells.toList∧isAgg v=false)∧aS S env μ bx (ah bx us) M:=by
  intro c hc h1 y hy
  have ct:bl P S w (ay S w0 M0 s0 env.bx μ w) μ env.bx V v:=by
   cases V with
   | agg u ws=>cases c <;> first | exact absurd rfl (hc _) | cases hy
   | gG ws=>cases c <;> first | exact absurd rfl (hc _) | cases hy
   | fe f ws=>cases c <;> first | exact absurd rfl (hc _) | cases hy
   | _=>exact hv
  obtain ⟨k1,M,r1,f1,n1⟩:=FT hS h hk (vs:= [V]) (cs:= [v]) ⟨v,[],rfl,ct,rfl⟩ hy
  rw [h1] at r1
  have hag:isAgg v=false:=by
   cases c with
   | data t=>exact absurd rfl (hc t)
   | aP e=>obtain ⟨a',cap,L,he,_⟩:=r1; simp at he; subst he; rfl
   | az e=>obtain ⟨a',cap,L,he,_⟩:=r1; simp at he; subst he; rfl
   | aF u=>
    obtain ⟨n,r1⟩:=r1
    cases n with
    | zero=>exact r1.elim
    | succ n=>obtain ⟨a',cap,L,Ms,he,_⟩:=r1; simp at he; subst he; rfl
  refine ⟨k1,M,⟨?_,hag⟩,f1⟩
  rw [av.jV (t:= .bool) (by rw [hag]; rfl) rfl]
  exact r1
 have obj: ∀ (ps:List CK) (b off:Nat) (ws:List (Sy.V S.C)) (y:aJ S.C ps) (us':aA S.C),V= .ptr b off→bx b=some (.cells ws)→cy S (ai bx b (some .dead)) ps (ws.drop off)=some (y,us')→us=(b, .dead)::us'→
  Tk S bx (ah bx us)∧ ∃ M,dQ S w (bC S w0 M0 s0 env.bx (ah bx us) μ w) M ps y v∧aS S env μ bx (ah bx us) M:=by
  intro ps b off ws y us' hV hb hy hu
  subst hV hu
  exact zz hS h hk hb hv hy
 cases k with
 | val c=>
  cases c with
  | data t=>
   simp only [bS] at hx
   obtain ⟨y,hy,hx⟩:=Option.bind_eq_some_iff.1 hx
   cases hx
   obtain ⟨k1,r1⟩:=uI hS h hk hv hy
   exact ⟨k1,fun _ _=>False,⟨⟨fun _ _ h=>h,r1.2⟩,r1.1⟩,aS.none (fun _ _ h=>h)⟩
  | aP e=>exact ck (.aP e) (by simp) rfl x hx
  | az e=>exact ck (.az e) (by simp) rfl x hx
  | aF u=>exact ck (.aF u) (by simp) rfl x hx
 | agg u ps=>
  simp only [bS] at hx
  split at hx
  · rename_i u' vs
    cases hw:Nat.beq u u'&&Nat.beq vs.length (CK.bJ S ps) with
    | false=>rw [hw] at hx; cases hx
    | true=>
     rw [hw] at hx
     replace hx:cy S bx ps vs=some (x,us):=hx
     rw [Bool.and_eq_true] at hw
     have w1:=Nat.eq_of_beq_eq_true hw.1
     have w2:=Nat.eq_of_beq_eq_true hw.2
     subst w1
     obtain ⟨ds,ct,dV,yU,DD⟩:=hv
     obtain ⟨k1,M,r1,f1,n1⟩:=tS hS h ps hk DD hx
     have hlen:=aB.length P S DD
     rw [← w2, ← hlen,List.take_length] at r1
     exact ⟨k1,M,⟨ds,ct,dV.symm.trans w2,r1⟩,f1⟩
  · cases hx
 | obj ps=>
  simp only [bS] at hx
  split at hx
  · split at hx
    · rename_i b off _ ws hb
      cases hw:Nat.beq off 0&&Nat.beq ws.length (CK.bJ S ps) with
      | false=>rw [hw] at hx; cases hx
      | true=>
       rw [hw,cond_true] at hx
       obtain ⟨⟨y,u'⟩,hy,hx⟩:=Option.bind_eq_some_iff.1 hx
       cases hx
       exact obj ps _ _ _ _ _ rfl hb hy rfl
    · cases hx
  · cases hx
 | opt ps=>
  simp only [bS] at hx
  split at hx
  · cases hx
    exact ⟨Tk.refl S bx,fun _ _=>False,⟨fun _ _ h=>h,hv⟩,aS.none (fun _ _ h=>h)⟩
  · split at hx
    · rename_i b off _ ws hb
      cases hw:Nat.beq off 0&&Nat.beq ws.length (CK.bJ S ps) with
      | false=>rw [hw] at hx; cases hx
      | true=>
       rw [hw,cond_true] at hx
       obtain ⟨⟨y,u'⟩,hy,hx⟩:=Option.bind_eq_some_iff.1 hx
       cases hx
       exact obj ps _ _ _ _ _ rfl hb hy rfl
    · cases hx
  · cases hx
 | cj ps=>
  simp only [bS] at hx
  split at hx
  · split at hx
    · rename_i b n _ ws hb
      cases hw:Nat.beq n ws.length&&Nat.beq ws.length (CK.bJ S ps) with
      | false=>rw [hw] at hx; cases hx
      | true=>
       rw [hw,cond_true] at hx
       rw [Bool.and_eq_true] at hw
       have w1:=Nat.eq_of_beq_eq_true hw.1
       have w2:=Nat.eq_of_beq_eq_true hw.2
       obtain ⟨⟨y,u'⟩,hy,hx⟩:=Option.bind_eq_some_iff.1 hx
       cases hx
       have hv:v= .slice (some ⟨(μ b).b,(μ b).o,none⟩) n n:=hv
       obtain ⟨k1,M,r1,f1⟩:=zz hS h hk (v:= .pointer (some ⟨(μ b).b,(μ b).o,none⟩)) hb (show bl P S w (ay S w0 M0 s0 env.bx μ w) μ env.bx (.ptr b 0) _ from rfl) hy
       exact ⟨k1,M,⟨_,by rw [hv,w1,w2],r1⟩,f1⟩
    · cases hx
  · cases hx
 | err=>
  simp only [bS] at hx
  split at hx
  · cases hx
    exact ⟨Tk.refl S bx,fun _ _=>False,⟨fun _ _ h=>h,hv⟩,aS.none (fun _ _ h=>h)⟩
  · cases hx
 | aQ=>
  simp only [bS] at hx
  split at hx
  · split at hx
    · split at hx
      · rename_i b off _ j hb _ l hj
        cases hw:Nat.beq off 0 with
        | false=>rw [hw] at hx; cases hx
        | true=>
         rw [hw] at hx
         cases hx
         have ho:=Nat.eq_of_beq_eq_true hw
         subst ho
         have hne:j≠b:=fun e=>by subst e; rw [hb] at hj; cases hj
         have lb:live S bx b:=by unfold live; rw [hb]; trivial
         have lj:live S bx j:=by unfold live; rw [hj]; trivial
         have hb0:env.bx b=some (.aQ j):=(hk.cY lb).symm.trans hb
         have hj0:env.bx j=some (.buf x):=(hk.cY lj).symm.trans hj
         have DW:live S env.bx b:=(dA S (hk.cY lb)).1 lb
         have DZ:live S env.bx j:=(dA S (hk.cY lj)).1 lj
         obtain ⟨g1,g2,g3,u,g4,g5⟩:=h.bw b _ hb0
         have gj:kD S w (μ j) x:=h.bw j _ hj0
         have hv:v= .pointer (some ⟨(μ b).b,(μ b).o+0,none⟩):=hv
         have k1:Tk S bx (ai bx b (some .dead)):=Tk.ki lb
         have KQ:live S (ai bx b (some .dead)) j:=by unfold live; rw [aY _ _ hne,hj]; trivial
         have k2:Tk S (ai bx b (some .dead)) (ai (ai bx b (some .dead)) j (some .dead)):=Tk.ki KQ
         have fb: ∀ b' o',(Loc.mk (μ b).b 0 2 0 false (fun _ _=>False)).bI b' o'→(μ b).au b' o':=fun b' o' ⟨q1,q2,q3⟩=> .inl ⟨q1,by omega,by have :o'<0+2:=q3; omega⟩
         refine ⟨k1.trans S k2,fun b' o'=>(Loc.mk (μ b).b 0 2 0 false (fun _ _=>False)).bI b' o'∨(μ j).bI b' o',⟨(μ b).b,μ j,by rw [hv,g1],g5 _ hj0▸g4,gj,fun _ _=>Iff.rfl,fun b' o' q1 q2=>h.cM j b hne DZ DW _ _ (.inl q2) (fb _ _ q1)⟩, ?_⟩
         rintro b' o' (q | q)
         · exact ⟨b,DW,lb,(aY _ _ hne.symm).trans (aI _ _ _),fb _ _ q⟩
         · exact ⟨j,DZ,lj,aI _ _ _, .inl q⟩
      · cases hx
    · cases hx
  · cases hx
 | nil=>
  simp only [bS] at hx
  split at hx
  · cases hx
    exact ⟨Tk.refl S bx,fun _ _=>False,⟨fun _ _ h=>h,hv⟩,aS.none (fun _ _ h=>h)⟩
  · cases hx
 | bO t ps=>
  simp only [bS] at hx
  split at hx
  · rename_i b c
    obtain ⟨⟨y,u1⟩,hy,hx⟩:=Option.bind_eq_some_iff.1 hx
    obtain ⟨⟨z,u2⟩,hz,hx⟩:=Option.bind_eq_some_iff.1 hx
    cases hx
    obtain ⟨kb,q,e1,e2,e3,e4⟩:=hv
    obtain ⟨k1,M1,r1,f1⟩:=FZ hS h hk hy
    obtain ⟨k2,M2,r2,f2⟩:=FZ hS h (hk.trans S k1) hz
    dsimp only at *
    rw [fu]
    rw [e3,e4] at r2
    exact ⟨k1.trans S k2,fun b o=>M1 b o∨M2 b o,⟨kb,q,⟨(μ c).b,(μ c).o,none⟩,M1,M2,e1,e2.later (gZ S _ _ _ _ _ _ _),⟨fun _ _=>Iff.rfl,aS.apart h f1 f2⟩,dQ.mono S (oX S k2) r1,r2⟩,aS.union f1 f2 k1 k2⟩
  · cases hx
 | ro t=>
  simp only [bS] at hx
  obtain ⟨y,hy,hx⟩:=Option.bind_eq_some_iff.1 hx
  cases hx
  have ct:bl P S w (ay S w0 M0 s0 env.bx μ w) μ env.bx V v:=by
   cases V <;> first | exact hv | cases hy
  exact ⟨Tk.refl S bx,fun _ _=>False,⟨fun _ _ h=>h,BQ hS h hk ct hy⟩,aS.none (fun _ _ h=>h)⟩
 | fn A R=>
  simp only [bS] at hx
  obtain ⟨y,hy,hx⟩:=Option.bind_eq_some_iff.1 hx
  cases hx
  exact ⟨Tk.refl S bx,fun _ _=>False,⟨fun _ _ h=>h,ID hS h hk lT hv hy⟩,aS.none (fun _ _ h=>h)⟩
def dJ (P:Program) (S:aK) (w:World) (s:St) (μ:Nat→Loc) (bx:Bx S.C):List (V S.C)→List Value→Prop
 | [],cs=>cs= []
 | v::vs,cs=> ∃ c r,cs=c::r∧RV P S w s μ bx v c∧dJ P S w s μ bx vs r
theorem tT (hS:bY S) (h:Inv P S w0 M0 s0 dq env a w μ) {fs:List (gu S)} (lT: ∀ e ∈ fs,gv P S e): ∀ (ks:List K) {bx:Bx S.C} (hk:Tk S env.bx bx) {vs:List (V S.C)} {cs:List Value} {x:Ks S.C ks} {us:aA S.C},
 dJ P S w (ay S w0 M0 s0 env.bx μ w) μ env.bx vs cs→dP S fs bx ks vs=some (x,us)→
 Tk S bx (ah bx us)∧ ∃ M,bU P S w (bC S w0 M0 s0 env.bx (ah bx us) μ w) M ks x cs∧aS S env μ bx (ah bx us) M
 | [],bx,hk,[],cs,x,us,hv,hx=>by
  cases hx
  exact ⟨Tk.refl S bx,fun _ _=>False,⟨fun _ _ h=>h,hv⟩,aS.none (fun _ _ h=>h)⟩
 | [],_,_,_::_,_,_,_,_,hx=>by cases hx
 | _::_,_,_,[],_,_,_,_,hx=>by cases hx
 | k::ks,bx,hk,V::vs,cs,x,us,⟨c,r,hcs,ct,dV⟩,hx=>by
  simp only [dP] at hx
  obtain ⟨⟨y,u1⟩,hy,hx⟩:=Option.bind_eq_some_iff.1 hx
  obtain ⟨⟨z,u2⟩,hz,hx⟩:=Option.bind_eq_some_iff.1 hx
  cases hx
  obtain ⟨k1,M1,r1,f1⟩:=Nx hS h hk lT ct hy
  obtain ⟨k2,M2,r2,f2⟩:=tT hS h lT ks (hk.trans S k1) dV hz
  dsimp only at *
  rw [fu]
  refine ⟨k1.trans S k2,fun b o=>M1 b o∨M2 b o,⟨M1,M2,c,r,⟨fun _ _=>Iff.rfl,aS.apart h f1 f2⟩,hcs, ?_, ?_⟩,aS.union f1 f2 k1 k2⟩
  · rw [show Ks.head (Ks.cons y z)=y from by cases ks <;> rfl]
    exact r1.mono P S (oX S k2)
  · rw [show Ks.tail (Ks.cons y z)=z from by cases ks <;> rfl]
    exact r2
end
end Go.Sy
namespace Go.Sy
theorem gx.left {M A B:St} (h:gx M A B) {b o:Nat} (ha:A b o):M b o:=(h.1 b o).2 (.inl ha)
theorem gx.right {M A B:St} (h:gx M A B) {b o:Nat} (ha:B b o):M b o:=(h.1 b o).2 (.inr ha)
section
variable {P:Program} {S:aK}
def Agree (us:aA S.C) (lam:Nat→Loc) (μ:Nat→Loc) (bx:Bx S.C):Prop:= ∀ u ∈ us,bx u.1=some u.2∧μ u.1=lam u.1
structure bK (P:Program) (S:aK) (w:World) (s:St) (I:Nat→Prop) (us:aA S.C) (lam:Nat→Loc) (M:St):Prop where
 fm: ∀ u ∈ us,I u.1
 one: ∀ u ∈ us, ∀ u' ∈ us,u.1=u'.1→u=u'
 rb: ∀ μ bx,Agree us lam μ bx→ ∀ u ∈ us,RB P S w s μ bx (lam u.1) u.2
 lv: ∀ bx:Bx S.C, ∀ u ∈ us,bx u.1=some u.2→live S bx u.1
 au: ∀ b o,M b o↔ ∃ u ∈ us,(lam u.1).au b o
 cM: ∀ u ∈ us, ∀ u' ∈ us,u.1≠u'.1→ ∀ b o,(lam u.1).au b o→(lam u'.1).au b o→False
 ref: ∀ u ∈ us, ∀ vs,(u.2= .cells vs∨u.2= .bH vs)→ ∀ v ∈ vs, ∀ j ∈ ak S v, ∃ u' ∈ us,u'.1=j
 ext: ∀ u ∈ us,kU S (some u.2)∨b6 (lam u.1).ext
theorem bK.nil {w:World} {s:St} {I:Nat→Prop} {M:St} (h:b6 M) (lam:Nat→Loc):bK P S w s I [] lam M:=
 ⟨by simp,by simp,by simp,by simp,fun b o=>⟨fun hm=>(h b o hm).elim,by simp⟩,by simp,by simp,by simp⟩
def both (us:aA S.C) (l1 l2:Nat→Loc):Nat→Loc:=fun i=>if i ∈ us.map (·.1) then l1 i else l2 i
theorem bK.both {w:World} {s:St} {I1 I2:Nat→Prop} {aR iR:aA S.C} {l1 l2:Nat→Loc} {M M1 M2:St} (h1:bK P S w s I1 aR l1 M1) (h2:bK P S w s I2 iR l2 M2)
 (hI: ∀ i,I1 i→I2 i→False) (hM:gx M M1 M2):bK P S w s (fun i=>I1 i∨I2 i) (aR++iR) (both aR l1 l2) M∧
  (∀ μ bx,Agree (aR++iR) (Sy.both aR l1 l2) μ bx→Agree aR l1 μ bx∧Agree iR l2 μ bx):=by
 have e1: ∀ u ∈ aR,Sy.both aR l1 l2 u.1=l1 u.1:=fun u hu=>if_pos (List.mem_map.2 ⟨u,hu,rfl⟩)
 have e2: ∀ u ∈ iR,Sy.both aR l1 l2 u.1=l2 u.1:=fun u hu=>if_neg fun hm=>by
  obtain ⟨u',aH,he⟩:=List.mem_map.1 hm
  exact hI u.1 (he▸h1.fm u' aH) (h2.fm u hu)
 have hag: ∀ μ bx,Agree (aR++iR) (Sy.both aR l1 l2) μ bx→Agree aR l1 μ bx∧Agree iR l2 μ bx:=fun μ bx h=>
  ⟨fun u hu=>⟨(h u (by simp [hu])).1,(h u (by simp [hu])).2.trans (e1 u hu)⟩,fun u hu=>⟨(h u (by simp [hu])).1,(h u (by simp [hu])).2.trans (e2 u hu)⟩⟩
 refine ⟨⟨?_, ?_, ?_, ?_, ?_, ?_, ?_, ?_⟩,hag⟩
 · intro u hu
   rcases List.mem_append.1 hu with hu | hu
   · exact .inl (h1.fm u hu)
   · exact .inr (h2.fm u hu)
 · intro u hu u' aH he
   rcases List.mem_append.1 hu with hu | hu <;> rcases List.mem_append.1 aH with aH | aH
   · exact h1.one u hu u' aH he
   · exact (hI u.1 (h1.fm u hu) (he▸h2.fm u' aH)).elim
   · exact (hI u'.1 (h1.fm u' aH) (he▸h2.fm u hu)).elim
   · exact h2.one u hu u' aH he
 · intro μ bx ha u hu
   rcases List.mem_append.1 hu with hu | hu
   · rw [e1 u hu]; exact h1.rb μ bx (hag μ bx ha).1 u hu
   · rw [e2 u hu]; exact h2.rb μ bx (hag μ bx ha).2 u hu
 · intro bx u hu hb
   rcases List.mem_append.1 hu with hu | hu
   · exact h1.lv bx u hu hb
   · exact h2.lv bx u hu hb
 · intro b o
   rw [hM.1 b o,h1.au,h2.au]
   constructor
   · rintro (⟨u,hu,hf⟩ | ⟨u,hu,hf⟩)
     · exact ⟨u,by simp [hu],by rw [e1 u hu]; exact hf⟩
     · exact ⟨u,by simp [hu],by rw [e2 u hu]; exact hf⟩
   · rintro ⟨u,hu,hf⟩
     rcases List.mem_append.1 hu with hu | hu
     · rw [e1 u hu] at hf; exact .inl ⟨u,hu,hf⟩
     · rw [e2 u hu] at hf; exact .inr ⟨u,hu,hf⟩
 · intro u hu u' aH hne b o hf hf'
   rcases List.mem_append.1 hu with hu | hu <;> rcases List.mem_append.1 aH with aH | aH
   · rw [e1 u hu] at hf; rw [e1 u' aH] at hf'
     exact h1.cM u hu u' aH hne b o hf hf'
   · rw [e1 u hu] at hf; rw [e2 u' aH] at hf'
     exact hM.2 b o ((h1.au b o).2 ⟨u,hu,hf⟩) ((h2.au b o).2 ⟨u',aH,hf'⟩)
   · rw [e2 u hu] at hf; rw [e1 u' aH] at hf'
     exact hM.2 b o ((h1.au b o).2 ⟨u',aH,hf'⟩) ((h2.au b o).2 ⟨u,hu,hf⟩)
   · rw [e2 u hu] at hf; rw [e2 u' aH] at hf'
     exact h2.cM u hu u' aH hne b o hf hf'
 · intro u hu vs hvs v hv j hj
   rcases List.mem_append.1 hu with hu | hu
   · obtain ⟨u',aH,he⟩:=h1.ref u hu vs hvs v hv j hj
     exact ⟨u',by simp [aH],he⟩
   · obtain ⟨u',aH,he⟩:=h2.ref u hu vs hvs v hv j hj
     exact ⟨u',by simp [aH],he⟩
 · intro u hu
   rcases List.mem_append.1 hu with hu | hu
   · rw [e1 u hu]; exact h1.ext u hu
   · rw [e2 u hu]; exact h2.ext u hu
theorem bK.weaken {w:World} {s:St} {I I':Nat→Prop} {us:aA S.C} {lam:Nat→Loc} {M:St} (h:bK P S w s I us lam M) (hI: ∀ i,I i→I' i):bK P S w s I' us lam M:=
 ⟨fun u hu=>hI _ (h.fm u hu),h.one,h.rb,h.lv,h.au,h.cM,h.ref,h.ext⟩
theorem F5 {w:World} {s:St} {n:Nat} (μ:Nat→Loc) (bx:Bx S.C): ∀ (ts:List Ty) (hts:ts.all (fun t=> !aZ t)=true) (x:ag S.C ts) (cs:List Value),
 a_ S (fun t x cs=>av S w s n t x cs) ts x cs→aB P S w s μ bx (nA S ts x) cs∧(nA S ts x).all (bG S)=true∧ ∀ v ∈ nA S ts x,ak S v= []
 | [],_,x,cs,h=>⟨h,rfl,by simp [nA]⟩
 | t::ts,hts,x,cs,⟨c,r,hcs,h1,h2⟩=>by
  simp only [List.all_cons,Bool.and_eq_true,Bool.not_eq_true'] at hts
  obtain ⟨r1,r2,r3⟩:=F5 μ bx ts hts.2 _ _ h2
  have hc:isAgg c=false:=by
   cases n with
   | zero=>exact h1.elim
   | succ n=>cases t with
    | int k=>simp [av] at h1; subst h1; rfl
    | bool=>simp [av] at h1; subst h1; rfl
    | str=>simp [av] at h1; subst h1; rfl
    | pt=>simp [av] at h1; subst h1; rfl
    | sl e=>obtain ⟨a,cap,h,_⟩:=h1; simp at h; subst h; rfl
    | st u=>simp [aZ] at hts
  refine ⟨⟨c,r,hcs,⟨by rw [hc,hts.1],n, ?_⟩,r1⟩, ?_, ?_⟩
  · rw [av.jV (t:=t) (by rw [hc,hts.1]) hts.1]
    exact h1
  · simp only [nA,List.all_cons,Bool.and_eq_true]
    exact ⟨by cases t <;> first | rfl | simp [aZ] at hts,r2⟩
  · intro v hv
    simp only [nA,List.mem_cons] at hv
    rcases hv with rfl | hv
    · rfl
    · exact r3 v hv
theorem kM (hS:bY S) {w:World} {s:St} {n:Nat} (μ:Nat→Loc) (bx:Bx S.C) {t:Ty} {x:t.den S.C} {cs:List Value} (h:av S w s n t x cs):
 aB P S w s μ bx (iG S t x) cs∧(iG S t x).all (bG S)=true∧ ∀ v ∈ iG S t x,ak S v= []:=by
 have one:aZ t=false→iG S t x= [.d t x]→aB P S w s μ bx (iG S t x) cs∧(iG S t x).all (bG S)=true∧ ∀ v ∈ iG S t x,ak S v= []:=by
  intro ht he
  rw [he]
  have hl:=h.length S
  rw [show Ty.sz S t=1 from by cases t <;> first | rfl | simp [aZ] at ht] at hl
  obtain ⟨c,rfl⟩:=List.length_eq_one_iff.1 hl
  have hc:isAgg c=false:=by
   cases n with
   | zero=>exact h.elim
   | succ n=>cases t with
    | int k=>simp [av] at h; subst h; rfl
    | bool=>simp [av] at h; subst h; rfl
    | str=>simp [av] at h; subst h; rfl
    | pt=>simp [av] at h; subst h; rfl
    | sl e=>obtain ⟨a,cap,h,_⟩:=h; simp at h; subst h; rfl
    | st u=>simp [aZ] at ht
  refine ⟨⟨c,[],rfl,⟨by rw [hc,ht],n, ?_⟩,rfl⟩, ?_, ?_⟩
  · rw [av.jV (t:=t) (by rw [hc,ht]) ht]
    exact h
  · cases t <;> first | rfl | simp [aZ] at ht
  · intro v hv
    simp at hv
    subst hv
    rfl
 cases t with
 | st u=>
  cases n with
  | zero=>exact h.elim
  | succ n=>exact F5 μ bx (S.F u) (hS.flat u) _ _ h
 | int k=>exact one rfl rfl
 | bool=>exact one rfl rfl
 | str=>exact one rfl rfl
 | pt=>exact one rfl rfl
 | sl e=>exact one rfl rfl
theorem s7 (hS:bY S) {w:World} {s M:St} (id:Nat) {c:CK} {x:c.den S.C} {cs:List Value} (h:jQ S w s M c x cs):
 id≤(bu S id c x).2.2∧ ∃ lam,bK P S w s (fun i=>id≤i∧i<(bu S id c x).2.2) (bu S id c x).2.1 lam M∧
  (bu S id c x).1.all (bG S)=true∧(∀ v ∈ (bu S id c x).1, ∀ j ∈ ak S v, ∃ u ∈ (bu S id c x).2.1,u.1=j)∧
  ∀ μ bx,Agree (bu S id c x).2.1 lam μ bx→aB P S w s μ bx (bu S id c x).1 cs:=by
 cases c with
 | data t=>
  obtain ⟨hM,n,hn⟩:=h
  have ho:=fun μ bx=>kM (P:=P) hS μ bx hn
  refine ⟨Nat.le_refl _,fun _=>⟨0,0,0,0,true,fun _ _=>False⟩,bK.nil hM _,(ho (fun _=>⟨0,0,0,0,true,fun _ _=>False⟩) (fun _=>none)).2.1, ?_,fun μ bx _=>(ho μ bx).1⟩
  intro v hv j hj
  rw [(ho (fun _=>⟨0,0,0,0,true,fun _ _=>False⟩) (fun _=>none)).2.2 v hv] at hj
  simp at hj
 | aP e=>
  obtain ⟨a,cap,L,rfl,⟨n,hn⟩,sH,bV,hM⟩:=h
  refine ⟨Nat.le_succ _,fun _=>L.plain,⟨?_, ?_, ?_, ?_, ?_, ?_, ?_,fun _ _=> .inr fun _ _ h=>h⟩,rfl, ?_, ?_⟩
  · intro u hu; simp [bu] at hu; subst hu; simp [bu]
  · intro u hu u' aH _; simp [bu] at hu aH; rw [hu,aH]
  · intro μ bx ha u hu; simp [bu] at hu; subst hu; exact bV
  · intro bx u hu hb; simp [bu] at hu; subst hu; unfold live; rw [hb]; trivial
  · intro b o; rw [hM]; simp [bu,Loc.zN]
  · intro u hu u' aH hne; simp [bu] at hu aH; subst hu aH; exact absurd rfl hne
  · intro u hu vs hvs; simp [bu] at hu; subst hu; rcases hvs with hvs | hvs <;> cases hvs
  · intro v hv j hj; simp [bu] at hv; subst hv; simp [ak] at hj; subst hj; exact ⟨(j, .tail),by simp [bu],rfl⟩
  · intro μ bx ha
    refine ⟨_,[],rfl,⟨⟨rfl,n,hn⟩,fun _=>⟨a,cap,rfl, ?_⟩⟩,rfl⟩
    rw [(ha (id, .tail) (by simp [bu])).2]
    exact sH
 | az e=>
  obtain ⟨a,cap,L,rfl,hao,bV,hM,hel⟩:=h
  refine ⟨Nat.le_succ _,fun _=>L.plain,⟨?_, ?_, ?_, ?_, ?_, ?_, ?_,fun _ _=> .inr fun _ _ h=>h⟩,rfl, ?_, ?_⟩
  · intro u hu; simp [bu] at hu; subst hu; simp [bu]
  · intro u hu u' aH _; simp [bu] at hu aH; rw [hu,aH]
  · intro μ bx ha u hu; simp [bu] at hu; subst hu
    exact ⟨hao.cells,hao.isNil,by have :=hao.fits; have :=hao.dU; show x.length≤L.cap; omega,bV,hel⟩
  · intro bx u hu hb; simp [bu] at hu; subst hu; unfold live; rw [hb]; trivial
  · intro b o; rw [hM]; simp [bu,Loc.zN]
  · intro u hu u' aH hne; simp [bu] at hu aH; subst hu aH; exact absurd rfl hne
  · intro u hu vs hvs; simp [bu] at hu; subst hu; rcases hvs with hvs | hvs <;> cases hvs
  · intro v hv j hj; simp [bu] at hv; subst hv; simp [ak] at hj; subst hj; exact ⟨(j, .arr e x),by simp [bu],rfl⟩
  · intro μ bx ha
    obtain ⟨h1,h2⟩:=ha (id, .arr e x) (by simp [bu])
    dsimp only at h1 h2
    refine ⟨_,[],rfl,⟨⟨⟨_,_,_,rfl⟩,fun u l q hb=>by rw [h1] at hb; cases hb⟩,fun e' l' hb=> ?_⟩,rfl⟩
    rcases hb with hb | hb
    · rw [h1] at hb
      cases hb
      exact ⟨a,cap,rfl,by rw [h2]; exact hao.plain rfl⟩
    · rw [h1] at hb; cases hb
 | aF u=>
  obtain ⟨n,h⟩:=h
  cases n with
  | zero=>exact h.elim
  | succ n=>
  obtain ⟨a,cap,L,Ms,rfl,hao,bV,hM,hel⟩:=h
  have hcap:x.length≤L.cap:=by have :=hao.fits; have :=hao.dU; omega
  refine ⟨Nat.le_succ _,fun _=>L.with fun b o=> ∃ k,Ms k b o,⟨?_, ?_, ?_, ?_, ?_, ?_, ?_, ?_⟩,rfl, ?_, ?_⟩
  · intro u hu; simp [bu] at hu; subst hu; simp [bu]
  · intro u hu u' aH _; simp [bu] at hu aH; rw [hu,aH]
  · intro μ bx ha u hu; simp [bu] at hu; subst hu
    exact ⟨hao.cells,hao.isNil,hcap,bV,n,Ms,fun _ _=>Iff.rfl,hel⟩
  · intro bx u hu hb; simp [bu] at hu; subst hu; unfold live; rw [hb]; trivial
  · intro b o; rw [hM]; simp [bu,Loc.au,Loc.with,Loc.bI]
  · intro u hu u' aH hne; simp [bu] at hu aH; subst hu aH; exact absurd rfl hne
  · intro u hu vs hvs; simp [bu] at hu; subst hu; rcases hvs with hvs | hvs <;> cases hvs
  · intro u hu; simp [bu] at hu; subst hu; exact .inl trivial
  · intro v hv j hj; simp [bu] at hv; subst hv; simp [ak] at hj; subst hj; exact ⟨(j, .aF u x none),by simp [bu],rfl⟩
  · intro μ bx ha
    obtain ⟨h1,h2⟩:=ha (id, .aF u x none) (by simp [bu])
    dsimp only at h1 h2
    refine ⟨_,[],rfl,⟨⟨⟨_,_,_,rfl⟩,fun u' l q hb=> ?_⟩,fun e' l' hb=> ?_⟩,rfl⟩
    · rw [h1] at hb; cases hb
      exact ⟨a,cap,rfl,by rw [h2]; exact hao.plain rfl⟩
    · rcases hb with hb | hb <;> · rw [h1] at hb; cases hb
theorem qb (hS:bY S) {w:World} {s:St} : ∀ (cs:List CK) {M:St} (id:Nat) {x:aJ S.C cs} {vs:List Value},dx S w s M cs x vs→
 id≤(aT S id cs x).2.2∧ ∃ lam,bK P S w s (fun i=>id≤i∧i<(aT S id cs x).2.2) (aT S id cs x).2.1 lam M∧
  (aT S id cs x).1.all (bG S)=true∧(∀ v ∈ (aT S id cs x).1, ∀ j ∈ ak S v, ∃ u ∈ (aT S id cs x).2.1,u.1=j)∧
  ∀ μ bx,Agree (aT S id cs x).2.1 lam μ bx→aB P S w s μ bx (aT S id cs x).1 vs
 | [],M,id,x,vs,h=>⟨Nat.le_refl _,fun _=>⟨0,0,0,0,true,fun _ _=>False⟩,bK.nil h.1 _,rfl,by simp [aT],fun _ _ _=>h.2⟩
 | c::cs,M,id,x,vs,⟨M1,M2,v1,v2,hM,hvs,_,h1,h2⟩=>by
  obtain ⟨sZ,l1,g1,s1,r1,mb⟩:=s7 (P:=P) hS id h1
  obtain ⟨zk,l2,g2,s2,r2,ke⟩:=qb hS cs (bu S id c (aJ.head x)).2.2 h2
  obtain ⟨g,hag⟩:=bK.both g1 g2 (fun i hi hi'=>by omega) hM
  refine ⟨Nat.le_trans sZ zk,_,g.weaken (fun i hi=> ?_), ?_, ?_, ?_⟩
  · show id≤i∧i<(aT S (bu S id c (aJ.head x)).2.2 cs (aJ.tail x)).2.2
    rcases hi with hi | hi
    · exact ⟨hi.1,Nat.lt_of_lt_of_le hi.2 zk⟩
    · exact ⟨Nat.le_trans sZ hi.1,hi.2⟩
  · show ((bu S id c (aJ.head x)).1++(aT S (bu S id c (aJ.head x)).2.2 cs (aJ.tail x)).1).all (bG S)=true
    rw [List.all_append,s1,s2]; rfl
  · intro v hv j hj
    rcases List.mem_append.1 hv with hv | hv
    · obtain ⟨u,hu,he⟩:=r1 v hv j hj
      exact ⟨u,List.mem_append.2 (.inl hu),he⟩
    · obtain ⟨u,hu,he⟩:=r2 v hv j hj
      exact ⟨u,List.mem_append.2 (.inr hu),he⟩
  · intro μ bx ha
    obtain ⟨a1,a2⟩:=hag μ bx ha
    rw [hvs]
    exact aB.append P S (mb μ bx a1) (ke μ bx a2)
end
end Go.Sy
namespace Go.Sy
section
variable {P:Program} {S:aK}
theorem o8: ∀ (us:aA S.C) (bx:Bx S.C) {i:Nat},(∀ u ∈ us,u.1≠i)→ah bx us i=bx i
 | [],_,_,_=>rfl
 | u::us,bx,i,h=>(o8 us _ fun u' aH=>h u' (by simp [aH])).trans (aY _ _ (Ne.symm (h u (by simp))))
theorem tX: ∀ (us:aA S.C) (bx:Bx S.C),(∀ u ∈ us, ∀ u' ∈ us,u.1=u'.1→u=u')→ ∀ u ∈ us,ah bx us u.1=some u.2
 | [],_,_,_,h=>by simp at h
 | v::us,bx,h1,u,hu=>by
  by_cases e: ∃ u' ∈ us,u'.1=u.1
  · obtain ⟨u',aH,e⟩:=e
    have :u'=u:=h1 u' (by simp [aH]) u hu e
    subst this
    exact tX us _ (fun a ha b hb=>h1 a (by simp [ha]) b (by simp [hb])) u' aH
  · rcases List.mem_cons.1 hu with rfl | hu
    · show ah (ai bx u.1 (some u.2)) us u.1=some u.2
      rw [o8 us _ fun u' aH he=>e ⟨u',aH,he⟩,aI]
    · exact absurd ⟨u,hu,rfl⟩ e
theorem kI {v c:Value} (h:v.cells.toList= [c]) (ha:isAgg v=false):v=c:=by
 rw [av.jV (t:= .bool) ha rfl] at h
 simpa using h
theorem kS (cs:List CK): ∀ (id:Nat) (x:aJ S.C cs) (n:Nat),(aT S id cs x).2.2+n=id+cs.foldl oneMore n:=by
 induction cs with
 | nil=>intro id x n; rfl
 | cons c cs ih=>
  intro id x n
  have :=ih (bu S id c (aJ.head x)).2.2 (aJ.tail x)
  simp only [aT,List.foldl_cons]
  cases c with
  | data t=>exact this n
  | aP e=>have :=this (n+1); simp only [bu,oneMore] at this ⊢; omega
  | az e=>have :=this (n+1); simp only [bu,oneMore] at this ⊢; omega
  | aF u=>have :=this (n+1); simp only [bu,oneMore] at this ⊢; omega
theorem jh {w:World} {s:St} {μ:Nat→Loc} {bx:Bx S.C} {V:V S.C} {v:Value} (h:bl P S w s μ bx V v):RV P S w s μ bx V v:=by
 cases V <;> first | exact h | exact (h:False).elim
theorem qd (hS:bY S) {w:World} {s M:St} (id:Nat) {cs:List CK} {x:aJ S.C cs} {v:Value} (h:dQ S w s M cs x v):
 ∃ lam,bK P S w s (fun i=>id≤i∧i<(aT S (id+1) cs x).2.2) ((id, .cells (aT S (id+1) cs x).1)::(aT S (id+1) cs x).2.1) lam M∧
  id<(aT S (id+1) cs x).2.2∧
  ∀ μ bx,Agree ((id, .cells (aT S (id+1) cs x).1)::(aT S (id+1) cs x).2.1) lam μ bx→bl P S w s μ bx (.ptr id 0) v:=by
 obtain ⟨b,o,ds,M',rfl,bV,js,hM,hcs⟩:=h
 obtain ⟨le,l2,g2,s2,r2,ke⟩:=qb (P:=P) hS cs (id+1) hcs
 have hne: ∀ u ∈ (aT S (id+1) cs x).2.1,u.1≠id:=fun u hu e=>by have :=(g2.fm u hu).1; omega
 let lam:Nat→Loc:=fun i=>if i=id then ⟨b,o,ds.length,0,false,fun _ _=>False⟩ else l2 i
 have e1:lam id=⟨b,o,ds.length,0,false,fun _ _=>False⟩:=if_pos rfl
 have e2: ∀ u ∈ (aT S (id+1) cs x).2.1,lam u.1=l2 u.1:=fun u hu=>if_neg (hne u hu)
 have hag: ∀ μ bx,Agree ((id, .cells (aT S (id+1) cs x).1)::(aT S (id+1) cs x).2.1) lam μ bx→Agree (aT S (id+1) cs x).2.1 l2 μ bx:=
  fun μ bx h u hu=>⟨(h u (by simp [hu])).1,(h u (by simp [hu])).2.trans (e2 u hu)⟩
 refine ⟨lam,⟨?_, ?_, ?_, ?_, ?_, ?_, ?_, ?_⟩,by omega, ?_⟩
 · intro u hu
   rcases List.mem_cons.1 hu with rfl | hu
   · exact ⟨Nat.le_refl _,by show id<_; omega⟩
   · have :=g2.fm u hu; omega
 · intro u hu u' aH he
   rcases List.mem_cons.1 hu with rfl | hu <;> rcases List.mem_cons.1 aH with rfl | aH
   · rfl
   · exact absurd he.symm (hne u' aH)
   · exact absurd he (hne u hu)
   · exact g2.one u hu u' aH he
 · intro μ bx ha u hu
   rcases List.mem_cons.1 hu with rfl | hu
   · show RB P S w s μ bx (lam id) (.cells _)
     rw [e1]
     have hr:=ke μ bx (hag μ bx ha)
     exact ⟨s2,(aB.length P S hr),bV,ds,js,hr⟩
   · rw [e2 u hu]
     exact g2.rb μ bx (hag μ bx ha) u hu
 · intro bx u hu hb
   rcases List.mem_cons.1 hu with rfl | hu
   · unfold live; rw [hb]; trivial
   · exact g2.lv bx u hu hb
 · intro b' o'
   rw [hM.1 b' o',g2.au]
   constructor
   · rintro (h | ⟨u,hu,hf⟩)
     · refine ⟨_,List.mem_cons_self, ?_⟩
       show (lam id).au b' o'
       rw [e1]; exact .inl h
     · exact ⟨u,by simp [hu],by rw [e2 u hu]; exact hf⟩
   · rintro ⟨u,hu,hf⟩
     rcases List.mem_cons.1 hu with rfl | hu
     · have hf:(lam id).au b' o':=hf
       rw [e1] at hf; exact .inl (Loc.ia (fun _ _ h=>h) hf)
     · rw [e2 u hu] at hf; exact .inr ⟨u,hu,hf⟩
 · intro u hu u' aH hn b' o' hf hf'
   rcases List.mem_cons.1 hu with rfl | hu <;> rcases List.mem_cons.1 aH with rfl | aH
   · exact hn rfl
   · have hf:(lam id).au b' o':=hf
     rw [e1] at hf; rw [e2 u' aH] at hf'
     exact hM.2 b' o' (Loc.ia (fun _ _ h=>h) hf) ((g2.au b' o').2 ⟨u',aH,hf'⟩)
   · have hf':(lam id).au b' o':=hf'
     rw [e1] at hf'; rw [e2 u hu] at hf
     exact hM.2 b' o' (Loc.ia (fun _ _ h=>h) hf') ((g2.au b' o').2 ⟨u,hu,hf⟩)
   · rw [e2 u hu] at hf; rw [e2 u' aH] at hf'
     exact g2.cM u hu u' aH hn b' o' hf hf'
 · intro u hu vs hvs v hv j hj
   rcases List.mem_cons.1 hu with rfl | hu
   · rcases hvs with hvs | hvs
     · cases hvs
       obtain ⟨u',aH,he⟩:=r2 v hv j hj
       exact ⟨u',by simp [aH],he⟩
     · cases hvs
   · obtain ⟨u',aH,he⟩:=g2.ref u hu vs hvs v hv j hj
     exact ⟨u',by simp [aH],he⟩
 · intro u hu
   rcases List.mem_cons.1 hu with rfl | hu
   · right; show b6 (lam id).ext; rw [e1]; exact fun _ _ h=>h
   · rw [e2 u hu]; exact g2.ext u hu
 · intro μ bx ha
   have :=(ha (id, .cells (aT S (id+1) cs x).1) (by simp)).2
   dsimp only at this
   show _=_
   rw [this,e1]
   rfl
theorem xb {w:World} {s M:St} (i j:Nat) (hne:j≠i) (L:Loc) (h0:L.o=0) (h2:L.n=2) (n4:b6 L.ext) {x:List UInt8} {v:Value} (hv:v= .pointer (some ⟨L.b,L.o,none⟩)) (h:lI S w M x v):
 ∃ lam,lam i=L∧bK P S w s (fun k=>k=i∨k=j) [(i, .aQ j),(j, .buf x)] lam M:=by
 obtain ⟨b,R,hb,hh,hr,hM⟩:=h
 rw [hb] at hv
 have hb':b=L.b:=by
  simp only [Value.pointer.injEq,Option.some.injEq,Addr.mk.injEq] at hv
  exact hv.1
 subst hb'
 let lam:Nat→Loc:=fun k=>if k=i then L else R.plain
 have e1:lam i=L:=if_pos rfl
 have e2:lam j=R.plain:=if_neg hne
 have fL: ∀ b' o',(Loc.mk L.b 0 2 0 false (fun _ _=>False)).bI b' o'↔L.au b' o':=fun b' o'=>by
  have :L.au b' o'↔L.bI b' o':=⟨Loc.ia n4, .inl⟩
  rw [this]
  show b'=L.b∧0≤o'∧o'<0+2↔b'=L.b∧L.o≤o'∧o'<L.o+L.n
  rw [h0,h2]
 have fR: ∀ b' o',R.bI b' o'↔R.plain.au b' o':=fun b' o'=>(R.zN b' o').symm
 refine ⟨lam,e1,⟨?_, ?_, ?_, ?_, ?_, ?_, ?_, ?_⟩⟩
 · intro u hu
   simp only [List.mem_cons,List.not_mem_nil,or_false] at hu
   rcases hu with rfl | rfl
   · exact .inl rfl
   · exact .inr rfl
 · intro u hu u' aH he
   simp only [List.mem_cons,List.not_mem_nil,or_false] at hu aH
   rcases hu with rfl | rfl <;> rcases aH with rfl | rfl
   · rfl
   · exact absurd he.symm hne
   · exact absurd he hne
   · rfl
 · intro μ bx ha u hu
   have a1:=ha (i, .aQ j) (by simp)
   have a2:=ha (j, .buf x) (by simp)
   simp only [List.mem_cons,List.not_mem_nil,or_false] at hu
   rcases hu with rfl | rfl
   · show RB P S w s μ bx (lam i) (.aQ j)
     rw [e1]
     refine ⟨h0,h2,by rw [a2.1]; simp,_,hh,fun l hl=> ?_⟩
     rw [a2.1] at hl
     cases hl
     rw [a2.2,e2]
     rfl
   · show RB P S w s μ bx (lam j) (.buf x)
     rw [e2]
     exact hr
 · intro bx u hu hb
   simp only [List.mem_cons,List.not_mem_nil,or_false] at hu
   rcases hu with rfl | rfl <;> · unfold live; rw [hb]; trivial
 · intro b' o'
   rw [hM.1 b' o',fL,fR]
   constructor
   · rintro (h | h)
     · exact ⟨(i, .aQ j),by simp,by show (lam i).au b' o'; rw [e1]; exact h⟩
     · exact ⟨(j, .buf x),by simp,by show (lam j).au b' o'; rw [e2]; exact h⟩
   · rintro ⟨u,hu,hf⟩
     simp only [List.mem_cons,List.not_mem_nil,or_false] at hu
     rcases hu with rfl | rfl
     · have hf:(lam i).au b' o':=hf
       rw [e1] at hf; exact .inl hf
     · have hf:(lam j).au b' o':=hf
       rw [e2] at hf; exact .inr hf
 · intro u hu u' aH hn b' o' hf hf'
   simp only [List.mem_cons,List.not_mem_nil,or_false] at hu aH
   rcases hu with rfl | rfl <;> rcases aH with rfl | rfl
   · exact hn rfl
   · have hf:(lam i).au b' o':=hf
     have hf':(lam j).au b' o':=hf'
     rw [e1] at hf; rw [e2] at hf'
     exact hM.2 b' o' ((fL _ _).2 hf) ((fR _ _).2 hf')
   · have hf':(lam i).au b' o':=hf'
     have hf:(lam j).au b' o':=hf
     rw [e1] at hf'; rw [e2] at hf
     exact hM.2 b' o' ((fL _ _).2 hf') ((fR _ _).2 hf)
   · exact hn rfl
 · intro u hu vs hvs
   simp only [List.mem_cons,List.not_mem_nil,or_false] at hu
   rcases hu with rfl | rfl <;> rcases hvs with hvs | hvs <;> cases hvs
 · intro u hu
   simp only [List.mem_cons,List.not_mem_nil,or_false] at hu
   rcases hu with rfl | rfl
   · right; show b6 (lam i).ext; rw [e1]; exact n4
   · right; show b6 (lam j).ext; rw [e2]; exact fun _ _ h=>h
theorem IM (hS:bY S) {w:World} {s M:St} (id:Nat) {k:K} (hk:(match k with | .opt _=>false | _=>true)=true) {x:k.den S.C} {v:Value} (h:jR P S w s M k x v):
 ∃ lam,bK P S w s (fun i=>id≤i∧i<id+jt k) (eP S id k x).2 lam M∧(∀ j ∈ aq S (eP S id k x).1, ∃ u ∈ (eP S id k x).2,u.1=j)∧
  ∀ μ bx,Agree (eP S id k x).2 lam μ bx→RV P S w s μ bx (eP S id k x).1 v:=by
 cases k with
 | val c=>
  obtain ⟨h1,h2⟩:=h
  obtain ⟨le,lam,g,s1,r1,rv⟩:=s7 (P:=P) hS id h1
  cases c with
  | data t=>
   obtain ⟨hM,n,hn⟩:=h1
   exact ⟨fun _=>⟨0,0,0,0,true,fun _ _=>False⟩,bK.nil hM _,by simp [eP,aq,ak],fun μ bx _=>⟨h2,n,hn⟩⟩
  | aP e=>
   refine ⟨lam,g,fun j hj=>r1 (.aP id e x) (by simp [bu]) j hj,fun μ bx ha=> ?_⟩
   obtain ⟨c,r,hc,hv,hr⟩:=rv μ bx ha
   cases hr
   rw [kI hc h2]
   exact jh hv
  | az e=>
   refine ⟨lam,g,fun j hj=>r1 (.az id) (by simp [bu]) j hj,fun μ bx ha=> ?_⟩
   obtain ⟨c,r,hc,hv,hr⟩:=rv μ bx ha
   cases hr
   rw [kI hc h2]
   exact jh hv
  | aF u=>
   refine ⟨lam,g,fun j hj=>r1 (.az id) (by simp [bu]) j hj,fun μ bx ha=> ?_⟩
   obtain ⟨c,r,hc,hv,hr⟩:=rv μ bx ha
   cases hr
   rw [kI hc h2]
   exact jh hv
 | agg u cs=>
  obtain ⟨ds,hv,h2,h1⟩:=h
  obtain ⟨le,lam,g,s1,r1,rv⟩:=qb (P:=P) hS cs id h1
  have hz:=kS cs id x 0
  refine ⟨lam,g.weaken fun i hi=> ?_,fun j hj=> ?_,fun μ bx ha=>⟨ds,hv, ?_,s1,rv μ bx ha⟩⟩
  · simp only [jt]; omega
  · have hj:j ∈ (aT S id cs x).1.flatMap (ak S):=hj
    obtain ⟨v,hv,hj⟩:=List.mem_flatMap.1 hj
    exact r1 v hv j hj
  · have hl:=aB.length P S (rv μ bx ha)
    have :=h1.len S
    show (aT S id cs x).1.length=_
    rw [← hl,this,h2]
 | obj cs=>
  obtain ⟨lam,g,le,rv⟩:=qd (P:=P) hS id h
  refine ⟨lam,g.weaken fun i hi=> ?_,fun j hj=>⟨(id, .cells (aT S (id+1) cs x).1),by simp [eP],by simp [eP,aq,ak] at hj; exact hj.symm⟩,fun μ bx ha=>jh (rv μ bx ha)⟩
  have :=kS cs (id+1) x 0
  simp only [jt]
  omega
 | opt cs=>cases hk
 | bO t cs=>
  obtain ⟨b0,o0,p,M1,M2,hv,cu,hM,h1,h2⟩:=h
  obtain ⟨l1,g1,sZ,mb⟩:=qd (P:=P) hS id h1
  obtain ⟨l2,g2,zk,ke⟩:=qd (P:=P) hS (id+1) h2
  have hz:=kS cs (id+1+1) x.2 0
  obtain ⟨g,hag⟩:=bK.both g1 g2 (fun i q1 q2=>by
   have Ll:i<id+1:=q1.2
   omega) hM
  refine ⟨_,g.weaken fun i hi=> ?_,fun j hj=> ?_,fun μ bx ha=> ?_⟩
  · simp only [jt]
    rcases hi with hi | hi
    · have Ll:i<id+1:=hi.2
      omega
    · omega
  · have hj:j ∈ [id+1,id]:=hj
    simp only [List.mem_cons,List.not_mem_nil,or_false] at hj
    rcases hj with rfl | rfl
    · exact ⟨(id+1,_),List.mem_cons_of_mem _ (List.mem_cons_self),rfl⟩
    · exact ⟨(j,_),List.mem_cons_self,rfl⟩
  · obtain ⟨a1,a2⟩:=hag μ bx ha
    have e1:Value.pointer (some p)= .pointer (some ⟨(μ id).b,(μ id).o+0,none⟩):=mb μ bx a1
    have e2:Value.pointer (some ⟨b0,o0+1,none⟩)= .pointer (some ⟨(μ (id+1)).b,(μ (id+1)).o+0,none⟩):=ke μ bx a2
    cases e1
    simp only [Value.pointer.injEq,Option.some.injEq,Addr.mk.injEq] at e2
    exact ⟨b0,o0,hv,cu,e2.1.symm,by omega⟩
 | cj cs=>
  obtain ⟨p,hv,h⟩:=h
  obtain ⟨lam,g,le,rv⟩:=qd (P:=P) hS id h
  refine ⟨lam,g.weaken fun i hi=> ?_,fun j hj=>⟨(id, .cells (aT S (id+1) cs x).1),by simp [eP],by simp [eP,aq,ak] at hj; exact hj.symm⟩,fun μ bx ha=>jh ?_⟩
  · have :=kS cs (id+1) x 0
    simp only [jt]
    omega
  · have :Value.pointer (some p)= .pointer (some ⟨(μ id).b,(μ id).o+0,none⟩):=rv μ bx ha
    show v= .slice (some ⟨(μ id).b,(μ id).o,none⟩) (CK.bJ S cs) (CK.bJ S cs)
    rw [hv]
    cases this
    rfl
 | err=>exact ⟨fun _=>⟨0,0,0,0,true,fun _ _=>False⟩,bK.nil h.1 _,by simp [eP,aq,ak],fun μ bx _=>h.2⟩
 | aQ=>
  have h:lI S w M x v:=h
  obtain ⟨b,R,hb,_⟩:=Iff.mp Iff.rfl h
  obtain ⟨lam,e,g⟩:=xb (P:=P) (s:=s) id (id+1) (by omega) ⟨b,0,2,0,false,fun _ _=>False⟩ rfl rfl (fun _ _ h=>h) hb h
  refine ⟨lam,g.weaken fun i hi=> ?_,fun j hj=>⟨(id, .aQ (id+1)),by simp [eP],by simp [eP,aq,ak] at hj; exact hj.symm⟩,fun μ bx ha=>jh ?_⟩
  · simp only [jt]; omega
  · have a1:=(ha (id, .aQ (id+1)) (by simp [eP])).2
    show v= .pointer (some ⟨(μ id).b,(μ id).o+0,none⟩)
    rw [hb,show μ id=lam id from a1,e]
 | nil=>exact ⟨fun _=>⟨0,0,0,0,true,fun _ _=>False⟩,bK.nil h.1 _,by simp [eP,aq,ak],fun μ bx _=>h.2⟩
 | ro t=>exact ⟨fun _=>⟨0,0,0,0,true,fun _ _=>False⟩,bK.nil h.1 _,by simp [eP,aq,ak],fun μ bx _=>h.2⟩
 | fn a r=>exact ⟨fun _=>⟨0,0,0,0,true,fun _ _=>False⟩,bK.nil h.1 _,by simp [eP,aq,ak],fun μ bx _=>h.2⟩
def rj (a:Act):List Nat→List Value→Prop
 | [],vs=>vs= []
 | t::sl,vs=> ∃ v r,vs=v::r∧a.tmps.getD t Go.undef=v∧rj a sl r
theorem Ci (hS:bY S) {w:World} {s:St} (a:Act): ∀ (ks:List K) (sl:List Nat) {M:St} {x:Ks S.C ks} {vs:List Value} (env:Env S.C),jI sl ks=true→bU P S w s M ks x vs→rj a sl vs→
 ∃ us lam,bK P S w s (fun i=> ∃ t ∈ sl,16*t≤i∧i<16*t+16) us lam M∧(fA S ks sl x env).bx=ah env.bx us∧
  (∀ t,t ∉ sl→(fA S ks sl x env).tm t=env.tm t)∧
  ∀ t ∈ sl,(∀ j ∈ aq S ((fA S ks sl x env).tm t), ∃ u ∈ us,u.1=j)∧ ∀ μ bx,Agree us lam μ bx→RV P S w s μ bx ((fA S ks sl x env).tm t) (a.tmps.getD t Go.undef)
 | [],[],M,x,vs,env,_,h,_=>⟨[],fun _=>⟨0,0,0,0,true,fun _ _=>False⟩,bK.nil h.1 _,rfl,fun _ _=>rfl,by simp⟩
 | [],_::_,_,_,_,_,h,_,_=>by cases h
 | _::_,[],_,_,_,_,h,_,_=>by cases h
 | k::ks,t::sl,M,x,vs,env,hok,⟨M1,M2,v,r,hM,hvs,h1,h2⟩,⟨v',r',sM,ht,dN⟩=>by
  simp only [jI,Bool.and_eq_true,Bool.not_eq_true'] at hok
  obtain ⟨⟨⟨o1,o2⟩,o3⟩,o4⟩:=hok
  have ot:t ∉ sl:=by
   intro hm
   have :=List.contains_iff_mem.2 hm
   rw [o2] at this; cases this
  rw [hvs] at sM
  cases sM
  obtain ⟨l1,g1,r1,mb⟩:=IM (P:=P) hS (16*t) o3 h1
  obtain ⟨iR,l2,g2,hb,hto,vk⟩:=Ci hS a ks sl (env.apply (some t) (eP S (16*t) k (Ks.head x)).1 (eP S (16*t) k (Ks.head x)).2) o4 h2 dN
  obtain ⟨g,hag⟩:=bK.both (g1.weaken (I':=fun i=>16*t≤i∧i<16*t+16) fun i hi=>⟨hi.1,by have :=Nat.le_of_ble_eq_true o1; omega⟩) g2 (fun i hi ⟨t',ht',h1,h2⟩=>ot (by
   have :t'=t:=by omega
   exact this▸ht')) hM
  refine ⟨_,_,g.weaken fun i hi=> ?_, ?_, ?_, ?_⟩
  · rcases hi with hi | ⟨t',ht',hi⟩
    · exact ⟨t,by simp,hi⟩
    · exact ⟨t',by simp [ht'],hi⟩
  · rw [fu]; exact hb
  · intro t' ht'
    have e1:=hto t' (fun h=>ht' (by simp [h]))
    rw [show (fA S (k::ks) (t::sl) x env).tm t'=_ from e1]
    exact aY _ _ (fun h=>ht' (by simp [h]))
  · intro t' ht'
    by_cases e:t'=t
    · subst e
      have e1:=hto t' ot
      rw [show (fA S (k::ks) (t'::sl) x env).tm t'=_ from e1]
      rw [show (env.apply (some t') (eP S (16*t') k (Ks.head x)).1 (eP S (16*t') k (Ks.head x)).2).tm t'=(eP S (16*t') k (Ks.head x)).1 from aI _ _ _]
      refine ⟨fun j hj=> ?_,fun μ bx ha=> ?_⟩
      · obtain ⟨u,hu,he⟩:=r1 j hj
        exact ⟨u,List.mem_append.2 (.inl hu),he⟩
      · rw [ht]; exact mb μ bx (hag μ bx ha).1
    · have J5:t' ∈ sl:=by rcases List.mem_cons.1 ht' with h | h; exact absurd h e; exact h
      obtain ⟨h1,h2⟩:=vk t' J5
      refine ⟨fun j hj=> ?_,fun μ bx ha=>h2 μ bx (hag μ bx ha).2⟩
      obtain ⟨u,hu,he⟩:=h1 j hj
      exact ⟨u,List.mem_append.2 (.inr hu),he⟩
theorem Ch: ∀ (ks:List K) (sl:List Nat) (x:Ks S.C ks) (env:Env S.C),(fA S ks sl x env).df=env.df
 | [],_,_,_=>rfl
 | _::_,[],_,_=>rfl
 | k::r,t::sl,x,env=>Ch r sl (Ks.tail x) _
theorem Cj (hS:bY S) {w0:World} {M0 s0:St} {dq:List Deferred} {w:World} {s M:St} {a:Act} {ks:List K} {sl:List Nat} {x:Ks S.C ks} {vs:List Value}
 (hok:jI sl ks=true) (h:bU P S w s M ks x vs) (dN:rj a sl vs) (hs: ∀ b o,s b o→b<w.heap.size∧(s0 b o∨M0 b o∨w0.heap.size≤b)∧ ¬ M b o)
 (hM: ∀ b o,M b o→w0.heap.size≤b∨M0 b o) (hc:aO w0 w M0) {df:Bool} (hd:a.defers=cond df dq []) (hG:jf S w0 M0): ∃ μ,Inv P S w0 M0 s0 dq (fA S ks sl x (Env.none S df)) a w μ:=by
 obtain ⟨us,lam,g,hb,hto,vk⟩:=Ci (P:=P) hS a ks sl (Env.none S df) hok h dN
 have hin: ∀ i B,(fA S ks sl x (Env.none S df)).bx i=some B→(i,B) ∈ us:=by
  intro i B hi
  rw [hb] at hi
  by_cases e: ∃ u ∈ us,u.1=i
  · obtain ⟨u,hu,rfl⟩:=e
    rw [tX us _ g.one u hu] at hi
    cases hi
    exact hu
  · rw [o8 us _ fun u hu he=>e ⟨u,hu,he⟩] at hi
    cases hi
 have hag:Agree us lam lam (fA S ks sl x (Env.none S df)).bx:=fun u hu=>⟨by rw [hb]; exact tX us _ g.one u hu,rfl⟩
 have bp: ∀ i,live S (fA S ks sl x (Env.none S df)).bx i→ ∃ u ∈ us,u.1=i:=by
  intro i hi
  unfold live at hi
  cases e:(fA S ks sl x (Env.none S df)).bx i with
  | none=>rw [e] at hi; exact hi.elim
  | some B=>exact ⟨(i,B),hin i B e,rfl⟩
 have hl:aV w s w (ay S w0 M0 s0 (fA S ks sl x (Env.none S df)).bx lam w):=fun b o J1=>by
  obtain ⟨h1,h2,h3⟩:=hs b o J1
  refine ⟨⟨h1,h2,fun i hi hf=> ?_⟩,rfl⟩
  obtain ⟨u,hu,rfl⟩:=bp i hi
  exact h3 ((g.au b o).2 ⟨u,hu,hf⟩)
 have cK: ∀ i B0,(fA S ks sl x (Env.none S df)).bx i=some B0→ ∃ B,(fA S ks sl x (Env.none S df)).bx i=some B∧cg S (lam i) (lam i) B0 B:=fun i B hi=>⟨B,hi,cg.refl S _ _⟩
 have p6: ∀ j,(∃ u ∈ us,u.1=j)→(fA S ks sl x (Env.none S df)).bx j≠none:=by
  rintro j ⟨u,hu,rfl⟩
  rw [(hag u hu).1]; simp
 refine ⟨lam,⟨fun t=> ?_,fun i B hi=> ?_,fun i j hij li lj b o fi fj=> ?_,fun i li b o fi=> ?_,fun t i hi=> ?_,fun i vs' hvs v hv j hj=> ?_,hc,by rw [Ch]; exact hd,hG,fun i li=> ?_⟩⟩
 · by_cases ht:t ∈ sl
   · obtain ⟨h1,h2⟩:=vk t ht
     exact RV.step P S hl cK (fun i hi=>p6 i (h1 i hi)) (h2 lam _ hag)
   · rw [hto t ht]; trivial
 · have hu:=hin i B hi
   have hr:=g.rb lam _ hag (i,B) hu
   cases B with
   | cells vs'=>
    obtain ⟨h1,h2,h3,cs,h4,h5⟩:=hr
    exact ⟨h1,h2,h3,cs,h4,aB.step P S hl cK (fun v hv j hj=>p6 j (g.ref _ hu vs' (.inl rfl) v hv j hj)) h5⟩
   | bH vs'=>
    obtain ⟨h1,cs,h4,h5⟩:=hr
    exact ⟨h1,cs,h4.later hl,aB.step P S hl cK (fun v hv j hj=>p6 j (g.ref _ hu vs' (.inr rfl) v hv j hj)) h5⟩
   | arr e l=>
    obtain ⟨h1,h2,h3,h4,h5⟩:=hr
    refine ⟨h1,h2,h3,h4,fun k y hk=> ?_⟩
    obtain ⟨ds,d1,d2,n,d3⟩:=h5 k y hk
    exact ⟨ds,d1,d2,n,d3.mono S hl (Nat.le_refl _)⟩
   | bn e l=>
    obtain ⟨h2,h3,h5⟩:=hr
    refine ⟨h2,h3,fun k y hk=> ?_⟩
    obtain ⟨ds,d1,d2,n,d3⟩:=h5 k y hk
    exact ⟨ds,d1,d2.later hl,n,d3.mono S hl (Nat.le_refl _)⟩
   | aF u l q=>
    obtain ⟨h1,h2,h3,h4,n,Ms,h5,h6⟩:=hr
    exact ⟨h1,h2,h3,h4,n,Ms,h5,ep.step hl (fun u l M cs q1 q2=>bX.step hl (Nat.le_refl _) q1 q2) (Kept.refl _ _) h1 h3 h6⟩
   | tail=>exact hr
   | dead=>trivial
   | aQ j=>exact hr
   | buf l=>exact hr
 · obtain ⟨u,hu,rfl⟩:=bp i li
   obtain ⟨u',aH,rfl⟩:=bp j lj
   exact g.cM u hu u' aH hij b o fi fj
 · obtain ⟨u,hu,rfl⟩:=bp i li
   exact hM b o ((g.au b o).2 ⟨u,hu,fi⟩)
 · by_cases ht:t ∈ sl
   · exact p6 i ((vk t ht).1 i hi)
   · rw [hto t ht] at hi
     simp [Env.none,aq,ak] at hi
 · rcases hvs with hvs | hvs
   · exact p6 j (g.ref _ (hin i _ hvs) vs' (.inl rfl) v hv j hj)
   · exact p6 j (g.ref _ (hin i _ hvs) vs' (.inr rfl) v hv j hj)
 · obtain ⟨u,hu,rfl⟩:=bp i li
   rw [(hag u hu).1]
   exact g.ext u hu
end
end Go.Sy
namespace Go.Sy
def Tr.leaf {X:Type} :Tr X→X→Prop
 | .fail,_=>False
 | .ret y,x=>y=x
 | .ite p _ a b,x=>(p∧a.leaf x)∨(¬ p∧b.leaf x)
 | .bind _ m f,x=> ∃ y,m=some y∧(f y).leaf x
 | .opt _ m n s,x=>(m=none∧n.leaf x)∨ ∃ y,m=some y∧(s y).leaf x
theorem Tr.oN {X R:Type} : ∀ (t:Tr X) {k:X→Option R} {r:R},t.run k=some r→ ∃ x,t.leaf x∧k x=some r
 | .fail,_,_,h=>by cases h
 | .ret x,_,_,h=>⟨x,rfl,h⟩
 | .ite p i a b,k,r,h=>by
  by_cases hp:p
  · rw [Tr.run,if_pos hp] at h
    obtain ⟨x,h1,h2⟩:=Tr.oN a h
    exact ⟨x, .inl ⟨hp,h1⟩,h2⟩
  · rw [Tr.run,if_neg hp] at h
    obtain ⟨x,h1,h2⟩:=Tr.oN b h
    exact ⟨x, .inr ⟨hp,h1⟩,h2⟩
 | .bind _ m f,k,r,h=>by
  obtain ⟨y,hy,h⟩:=Option.bind_eq_some_iff.1 h
  obtain ⟨x,h1,h2⟩:=Tr.oN (f y) h
  exact ⟨x,⟨y,hy,h1⟩,h2⟩
 | .opt _ m n s,k,r,h=>by
  cases m with
  | none=>
   obtain ⟨x,h1,h2⟩:=Tr.oN n h
   exact ⟨x, .inl ⟨rfl,h1⟩,h2⟩
  | some y=>
   obtain ⟨x,h1,h2⟩:=Tr.oN (s y) h
   exact ⟨x, .inr ⟨y,rfl,h1⟩,h2⟩
theorem Tr.zl {X:Type} : ∀ (gs:List Gd) {t:Tr X} {x:X},(Tr.gd gs t).leaf x→(∀ g ∈ gs,g.p)∧t.leaf x
 | [],_,_,h=>⟨by simp,h⟩
 | g::gs,t,x,h=>by
  rcases h with ⟨h1,h2⟩ | ⟨_,h2⟩
  · obtain ⟨h3,h4⟩:=Tr.zl gs h2
    exact ⟨fun g' hg=>(List.mem_cons.1 hg).elim (fun e=>e▸h1) (h3 g'),h4⟩
  · exact h2.elim
section
variable {P:Program} {S:aK}
variable {w0:World} {M0 s0:St} {dq:List Deferred} {env:Env S.C} {a:Act} {w:World} {μ:Nat→Loc}
theorem Inv.tk (hS:bY S) (h:Inv P S w0 M0 s0 dq env a w μ) {aa:Bx S.C} (hk:Tk S env.bx aa):Inv P S w0 M0 s0 dq { env with bx:=aa } a w μ:=by
 have hf: ∀ i, ¬ aa i=env.bx i→live S aa i→False:=fun i hi hl=>hi (hk.cY hl)
 refine h.step (T:=fun _ _=>False) (U:=fun i=> ¬ aa i=env.bx i) (aO.refl w _) (fun _ _ h=>h.elim) (fun i hi=>⟨Classical.not_not.1 hi,rfl⟩)
  (fun i hi hl=>(hf i hi hl).elim) (fun i B0 bA=> ?_) (fun i _ hi _ _ hl=>(hf i hi hl).elim) (fun i B hi hB=> ?_) (fun i vs hi hvs=> ?_) (fun i hi hl=>(hf i hi hl).elim)
 · rcases hk i with e | ⟨e,hl⟩ | ⟨e,l,e1,e2⟩
   · exact ⟨B0,e.trans bA,cg.refl S _ _⟩
   · refine ⟨_,e, ?_⟩
     cases B0 <;> rfl
   · rw [bA] at e1
     cases e1
     · exact ⟨_,e2,rfl,rfl,rfl⟩
     · exact ⟨_,e2,rfl,rfl,rfl⟩
 · rcases hk i with e | ⟨e,_⟩ | ⟨e,l,e1,e2⟩
   · exact absurd e hi
   · rw [e] at hB; cases hB; trivial
   · rw [e2] at hB
     cases hB
     have bp:live S env.bx i:=cO.live S e1
     have hl:aV w (ay S w0 M0 s0 env.bx μ w) w (ay S w0 M0 s0 aa μ w):=h.later (T:=fun _ _=>False) (U:=fun i=> ¬ aa i=env.bx i) (aO.refl w _) (fun _ _ h=>h.elim) (fun i hi=>⟨Classical.not_not.1 hi,rfl⟩)
      (fun i hi hl=>(hf i hi hl).elim)
     have ft: ∀ b' o',(μ i).au b' o'→ay S w0 M0 s0 aa μ w b' o':=fun b' o' fH=>
      ⟨(ju P S (h.bw i) (h.ext i bp) bp fH).1,(h.own i bp _ _ fH).elim (fun h=> .inr (.inr h)) (fun h=> .inr (.inl h)),fun j su hf'=>by
       have hj0:=(dA S (hk.cY su)).1 su
       refine h.cM j i (fun e'=> ?_) hj0 bp _ _ hf' fH
       subst e'
       unfold live at su
       rw [e2] at su
       exact su⟩
     have two:=cO.two S e1
     clear e1
     rcases two with e1 | ⟨u,l',e1,e3⟩
     · obtain ⟨g1,g2,g3,g4,h3⟩:=h.bw i _ e1
       refine ⟨g2,g3,fun k x j8=> ?_⟩
       obtain ⟨ds,d1,d2,n,d3⟩:=h3 k x j8
       refine ⟨ds,d1,fun j u hj=>⟨d2 j u hj,ft _ _ (.inl ?_)⟩,n,d3.mono S hl (Nat.le_refl _)⟩
       exact kK g1 g3 (List.getElem?_eq_some_iff.1 j8).1 (by have :=(List.getElem?_eq_some_iff.1 hj).1; omega)
     · cases e3
       obtain ⟨g1,g2,g3,g4,n,Ms,g5,g6⟩:=h.bw i _ e1
       refine ⟨g2,g3,fun k x j8=> ?_⟩
       obtain ⟨y,ds,d1,d2,d3,d4⟩:=g6.2.2.2 k x j8 (by simp)
       obtain ⟨m,hm⟩:=vF (s':=ay S w0 M0 s0 aa μ w) hS.flat (fun u l M cs q1 q2=>bX.rep hS.flat q1 q2) d1 (fun b' o' q=>q.elim (fun q=>(hl b' o' q).1) fun q=>ft _ _ (.inr ((g5 _ _).2 ⟨k,q⟩))) d4
       refine ⟨ds,d2,fun j v hj=>⟨d3 j v hj,ft _ _ (.inl ?_)⟩,m,hm⟩
       exact kK g1 g3 (List.getElem?_eq_some_iff.1 j8).1 (by have :=(List.getElem?_eq_some_iff.1 hj).1; omega)
 · rcases hk i with e | ⟨e,_⟩ | ⟨e,l,e1,e2⟩
   · exact absurd e hi
   · rcases hvs with hvs | hvs <;> · rw [e] at hvs; cases hvs
   · rcases hvs with hvs | hvs <;> · rw [e2] at hvs; cases hvs
theorem Inv.zy (h:Inv P S w0 M0 s0 dq env a w μ) {w':World} (hw:aO w w' (fun _ _=>False)) {i:Nat} (hi:env.bx i=none) {B:b7 S.C} {L:Loc}
 (hf: ∀ b o,L.bI b o→w.heap.size≤b)
 (hb:aV w (ay S w0 M0 s0 env.bx μ w) w' (ay S w0 M0 s0 (ai env.bx i (some B)) (ai μ i L) w')→
  (∀ V v,RV P S w (ay S w0 M0 s0 env.bx μ w) μ env.bx V v→(∀ j ∈ aq S V,env.bx j≠none)→RV P S w' (ay S w0 M0 s0 (ai env.bx i (some B)) (ai μ i L) w') (ai μ i L) (ai env.bx i (some B)) V v)→
  (∀ V v,bl P S w (ay S w0 M0 s0 env.bx μ w) μ env.bx V v→(∀ j ∈ ak S V,env.bx j≠none)→bl P S w' (ay S w0 M0 s0 (ai env.bx i (some B)) (ai μ i L) w') (ai μ i L) (ai env.bx i (some B)) V v)→
  RB P S w' (ay S w0 M0 s0 (ai env.bx i (some B)) (ai μ i L) w') (ai μ i L) (ai env.bx i (some B)) L B)
 (hr: ∀ vs,(B= .cells vs∨B= .bH vs)→ ∀ v ∈ vs, ∀ j ∈ ak S v,env.bx j≠none) (hx:b6 L.ext):
 Inv P S w0 M0 s0 dq { env with bx:=ai env.bx i (some B) } a w' (ai μ i L)∧
  aV w (ay S w0 M0 s0 env.bx μ w) w' (ay S w0 M0 s0 (ai env.bx i (some B)) (ai μ i L) w')∧
  (∀ V v,RV P S w (ay S w0 M0 s0 env.bx μ w) μ env.bx V v→(∀ j ∈ aq S V,env.bx j≠none)→RV P S w' (ay S w0 M0 s0 (ai env.bx i (some B)) (ai μ i L) w') (ai μ i L) (ai env.bx i (some B)) V v):=by
 have hU: ∀ j, ¬ j=i→ai env.bx i (some B) j=env.bx j∧ai μ i L j=μ j:=fun j hj=>⟨aY _ _ hj,aY _ _ hj⟩
 have De: ∀ j,j=i→live S (ai env.bx i (some B)) j→ ∀ b o,(ai μ i L j).au b o→w.heap.size≤b∨ ∃ k,k=i∧live S env.bx k∧(μ k).au b o:=by
  rintro j rfl _ b o hfo
  rw [aI] at hfo
  exact .inl (hf b o (Loc.ia hx hfo))
 have hc: ∀ j B0,env.bx j=some B0→ ∃ B',ai env.bx i (some B) j=some B'∧cg S (μ j) (ai μ i L j) B0 B':=by
  intro j B0 hj
  have :j≠i:=fun e=>by subst e; rw [hi] at hj; cases hj
  rw [aY _ _ this,aY _ _ this]
  exact ⟨B0,hj,cg.refl S _ _⟩
 have hl:=h.later (T:=fun _ _=>False) (U:=fun j=>j=i) hw (fun _ _ h=>h.elim) hU De
 have lQ:=fun V v (hv:RV P S w (ay S w0 M0 s0 env.bx μ w) μ env.bx V v) hr=>RV.step P S hl hc hr hv
 have IY:=fun V v (hv:bl P S w (ay S w0 M0 s0 env.bx μ w) μ env.bx V v) hr=>bl.step P S hl hc hr hv
 refine ⟨h.step (T:=fun _ _=>False) (U:=fun j=>j=i) hw (fun _ _ h=>h.elim) hU De hc ?_ ?_ ?_ ?_,hl,lQ⟩
 · rintro j k rfl rfl hne; exact absurd rfl hne
 · rintro j B' rfl gk
   rw [aI] at gk
   cases gk
   rw [aI]
   exact hb hl lQ IY
 · rintro j vs rfl hvs v hv k hk
   rw [aI] at hvs
   have h0:=hr vs (by rcases hvs with hvs | hvs <;> · cases hvs; simp) v hv k hk
   obtain ⟨B0,bA⟩:=Option.ne_none_iff_exists'.1 h0
   obtain ⟨B',gk,_⟩:=hc k B0 bA
   rw [gk]; simp
 · rintro j rfl _
   right
   rw [aI]
   exact hx
theorem aW (h:Inv P S w0 M0 s0 dq env a w μ) {x:Operand} {V:V S.C} (hx:aE S env.tm x=some V):
 RV P S w (ay S w0 M0 s0 env.bx μ w) μ env.bx V (a.eval x)∧ ∀ i ∈ aq S V,env.bx i≠none:=by
 cases x with
 | tmp t=>cases hx; exact ⟨h.iQ t,h.ref t⟩
 | const v=>
  simp only [aE,B8] at hx
  split at hx <;> cases hx
  · exact ⟨⟨rfl,1,rfl⟩,by simp [aq,ak]⟩
  · exact ⟨⟨rfl,1,rfl⟩,by simp [aq,ak]⟩
  · rename_i s
    refine ⟨⟨rfl,1, ?_⟩,by simp [aq,ak]⟩
    show [Value.string s]= [Value.string ⟨s.data.toList.toArray⟩]
    cases s; simp
  · exact ⟨rfl,by simp [aq,ak]⟩
  · exact ⟨rfl,by simp [aq,ak]⟩
 | func f=>cases hx; exact ⟨⟨#[],rfl,rfl⟩,by simp [aq]⟩
 | global g=>cases hx
theorem wp_pure (h:Inv P S w0 M0 s0 dq env a w μ) {o:Oper} {K:Act→World→Prop} {Q:Exit→Act→World→Prop} {V:V S.C} {v:Value}
 (hrun:(execOp a.eval o).run P w= .ok (.value v) w) (hd: ∀ d,o.dst=some d→d<a.tmps.size)
 (hv:RV P S w (ay S w0 M0 s0 env.bx μ w) μ env.bx V v) (hr: ∀ i ∈ aq S V,env.bx i≠none)
 (hK: ∀ a' w' μ',Inv P S w0 M0 s0 dq (env.apply o.dst V []) a' w' μ'→a'.tmps.size=a.tmps.size→K a' w'):o.wp P a w K Q:=by
 unfold Oper.wp
 rw [hrun]
 refine hK _ w μ (h.put hd hv hr) ?_
 cases o.dst <;> simp [Act.put]
theorem Oz (hS:bY S) (h:Inv P S w0 M0 s0 dq env a w μ) {o:Oper} {K:Act→World→Prop} {Q:Exit→Act→World→Prop} {V:V S.C} {v:Value} {us:aA S.C}
 (hrun:(execOp a.eval o).run P w= .ok (.value v) w) (hd: ∀ d,o.dst=some d→d<a.tmps.size) (hk:Tk S env.bx (ah env.bx us))
 (hv:Inv P S w0 M0 s0 dq { env with bx:=ah env.bx us } a w μ→RV P S w (ay S w0 M0 s0 (ah env.bx us) μ w) μ (ah env.bx us) V v) (hr: ∀ i ∈ aq S V,ah env.bx us i≠none)
 (hK: ∀ a' w' μ',Inv P S w0 M0 s0 dq (env.apply o.dst V us) a' w' μ'→a'.tmps.size=a.tmps.size→K a' w'):o.wp P a w K Q:=by
 unfold Oper.wp
 rw [hrun]
 have hI:=h.tk hS hk
 refine hK _ w μ (hI.put hd (hv hI) hr) ?_
 cases o.dst <;> simp [Act.put]
theorem FQ {aa:Bx S.C} (hk:Tk S env.bx aa):aV w (ay S w0 M0 s0 env.bx μ w) w (ay S w0 M0 s0 aa μ w):=fun b o ⟨h1,h2,h3⟩=>
 ⟨⟨h1,h2,fun i hi=>h3 i ((dA S (hk.cY hi)).1 hi)⟩,rfl⟩
theorem nD (h:Inv P S w0 M0 s0 dq env a w μ) {o:Oper} {K:Act→World→Prop} {Q:Exit→Act→World→Prop} {w':World} {V:V S.C} {v:Value} {i:Nat} {B:b7 S.C} {L:Loc}
 (hrun:(execOp a.eval o).run P w= .ok (.value v) w') (hd: ∀ d,o.dst=some d→d<a.tmps.size) (hw:aO w w' (fun _ _=>False)) (hi:env.bx i=none)
 (hf: ∀ b o,L.bI b o→w.heap.size≤b)
 (hb:aV w (ay S w0 M0 s0 env.bx μ w) w' (ay S w0 M0 s0 (ai env.bx i (some B)) (ai μ i L) w')→
  (∀ V v,RV P S w (ay S w0 M0 s0 env.bx μ w) μ env.bx V v→(∀ j ∈ aq S V,env.bx j≠none)→RV P S w' (ay S w0 M0 s0 (ai env.bx i (some B)) (ai μ i L) w') (ai μ i L) (ai env.bx i (some B)) V v)→
  (∀ V v,bl P S w (ay S w0 M0 s0 env.bx μ w) μ env.bx V v→(∀ j ∈ ak S V,env.bx j≠none)→bl P S w' (ay S w0 M0 s0 (ai env.bx i (some B)) (ai μ i L) w') (ai μ i L) (ai env.bx i (some B)) V v)→
  RB P S w' (ay S w0 M0 s0 (ai env.bx i (some B)) (ai μ i L) w') (ai μ i L) (ai env.bx i (some B)) L B∧
  RV P S w' (ay S w0 M0 s0 (ai env.bx i (some B)) (ai μ i L) w') (ai μ i L) (ai env.bx i (some B)) V v)
 (hr: ∀ vs,(B= .cells vs∨B= .bH vs)→ ∀ v ∈ vs, ∀ j ∈ ak S v,env.bx j≠none) (hV: ∀ j ∈ aq S V,j=i∨env.bx j≠none)
 (hK: ∀ a' w' μ',Inv P S w0 M0 s0 dq (env.apply o.dst V [(i,B)]) a' w' μ'→a'.tmps.size=a.tmps.size→K a' w') (hx:b6 L.ext:=by exact fun _ _ h=>h):o.wp P a w K Q:=by
 unfold Oper.wp
 rw [hrun]
 have sN:RV P S w' (ay S w0 M0 s0 (ai env.bx i (some B)) (ai μ i L) w') (ai μ i L) (ai env.bx i (some B)) V v:=by
  obtain ⟨_,hl,lQ⟩:=h.zy hw hi hf (fun h1 h2 h3=>(hb h1 h2 h3).1) hr hx
  refine (hb hl lQ (fun V v hv hr=> ?_)).2
  refine bl.step P S hl (fun j B0 hj=> ?_) hr hv
  have :j≠i:=fun e=>by subst e; rw [hi] at hj; cases hj
  rw [aY _ _ this,aY _ _ this]
  exact ⟨B0,hj,cg.refl S _ _⟩
 obtain ⟨hI,_,_⟩:=h.zy hw hi hf (fun h1 h2 h3=>(hb h1 h2 h3).1) hr hx
 refine hK _ w' _ (hI.put hd sN fun j hj=> ?_) ?_
 · rcases hV j hj with rfl | hj
   · show ai env.bx j (some B) j≠none
     rw [aI]; simp
   · by_cases e:j=i
     · subst e; exact absurd hi hj
     · show ai env.bx i (some B) j≠none
       rw [aY _ _ e]; exact hj
 · cases o.dst <;> simp [Act.put]
end
end Go.Sy
namespace Go.Sy
section
variable (P:Program) (S:aK) (af:Nat→Nat)
def qU:Ty→Value
 | .int k=> .int k 0
 | .bool=> .bool false
 | .str=> .string ⟨#[]⟩
 | .sl _=> .slice none 0 0
 | .pt=> .pointer none
 | .st _=> .bool false
def pq:Ty→List Value
 | .st u=>(S.F u).map qU
 | t=> [qU t]
def nH:(ts:List Ty)→ag S.C ts
 | []=>()
 | t::ts=>ag.cons (Ty.zero S t) (nH ts)
def bR (t:Nat) (T:Ty):Prop:=
 (∃ i z,P.info? t=some i∧i.size=Ty.sz S T∧i.zero=some z∧isAgg z=aZ T∧z.cells.toList=pq S T)∧
 match T with
 | .int k=>P.underlying t=some (.int k)
 | .bool=>P.underlying t=some .bool
 | .str=>P.underlying t=some .string
 | .pt=> ∃ e,P.underlying t=some (.pointer e)
 | .sl e=> ∃ te ie,P.underlying t=some (.slice te)∧S.ty te=some e∧P.info? te=some ie∧ie.bytes=af t∧1≤af t
 | .st u=>(S.ex u (S.z u)=nH S (S.F u)∧(P.built t []).isSome=true)∧match S.ar t with
  | none=> ∃ fs,P.underlying t=some (.struct fs)∧
   ∀ f o T',S.eO u f=some (o,T')→ ∃ fd,fs[f]? =some fd∧fd.offset=o∧S.ty fd.type=some T'∧1≤Ty.sz S T'∧o+Ty.sz S T'≤(S.F u).length
  | some (n,e)=> ∃ te,P.underlying t=some (.array n te)∧S.ty te=some e∧((Ty.sz S e=1∧aZ e=false∧S.F u=List.replicate n e)∨ ∃ w,e= .st w∧S.F u=(List.replicate n (S.F w)).flatten)∧ ∀ f o T',S.eO u f=some (o,T')→o=f*Ty.sz S e∧T'=e∧f<n
def uh (S:aK):List Field→List Ty→Nat→Prop
 | [],[],_=>True
 | fd::fs,T::ts,i=>fd.offset=i∧fd.name≠ "_" ∧S.ty fd.type=some T∧(match T with | .int _=>True | .bool=>True | .str=>True | _=>False)∧uh S fs ts (i+1)
 | _,_,_=>False
def uk (P:Program) (S:aK):List Field→List Ty→Nat→Prop
 | [],ts,_=>ts= []
 | fd::fs,ts,i=>fd.offset=i∧fd.name≠ "_" ∧
  ((∃ T r,ts=T::r∧S.ty fd.type=some T∧(match T with | .int _=>True | .bool=>True | .str=>True | _=>False)∧uk P S fs r (i+1))∨
   ∃ v r gs,ts=S.F v++r∧S.ty fd.type=some (.st v)∧P.underlying fd.type=some (.struct gs)∧P.stoodInHeld fd.type=false∧1≤(S.F v).length∧uh S gs.toList (S.F v) 0∧uk P S fs r (i+(S.F v).length))
def EqAt (P:Program) (S:aK) (t:Nat):Prop:=
 ∃ u,S.ty t=some (.st u)∧(∃ fs,P.underlying t=some (.struct fs)∧uk P S fs.toList (S.F u) 0)∧P.stoodInHeld t=false∧P.eqGuardType P.depth t=false
structure aL:Prop extends bY S where
 ty: ∀ t T,S.ty t=some T→bR P S af t T
 pt: ∀ t,S.pt t=true→ ∃ e,P.underlying t=some (.pointer e)
 eq: ∀ t,S.eq t=true→EqAt P S t
 ou: ∀ t,S.ou t=true→ ∃ ms,P.underlying t=some (.interface ms)
 bt: ∀ p,S.bt=some p→p.1≠p.2∧ ∃ i z,P.info? p.1=some i∧i.zero=some z∧z.cells= #[.pointer none, .slice none 0 0]
variable {P S af}
theorem aL.agg (h:aL P S af) {t:Nat} {T:Ty} (ht:S.ty t=some T) (w:World):(Go.isAgg t).run P w= .ok (aZ T) w:=by
 obtain ⟨_,h2⟩:=h.ty t T ht
 unfold Go.isAgg
 cases T with
 | int k=>simp [run_underlying h2,aZ]
 | bool=>simp [run_underlying h2,aZ]
 | str=>simp [run_underlying h2,aZ]
 | pt=>obtain ⟨e,h2⟩:=h2; simp [run_underlying h2,aZ]
 | sl e=>obtain ⟨te,ie,hu,_⟩:=h2; simp [run_underlying hu,aZ]
 | st u=>
  obtain ⟨_,h2⟩:=h2
  cases ha:S.ar t with
  | none=>rw [ha] at h2; obtain ⟨fs,hu,_⟩:=h2; simp [run_underlying hu,aZ]
  | some p=>rw [ha] at h2; obtain ⟨te,hu,_⟩:=h2; simp [run_underlying hu,aZ]
theorem aL.size (h:aL P S af) {t:Nat} {T:Ty} (ht:S.ty t=some T) (w:World):(Go.sizeOf t).run P w= .ok (Ty.sz S T) w:=by
 obtain ⟨⟨i,z,h1,h2,_⟩,_⟩:=h.ty t T ht
 simp [Go.sizeOf,typeInfo,h1,h2]
theorem aL.Gg (h:aL P S af) {t:Nat} {T:Ty} (ht:S.ty t=some T): ∃ d,P.underlying t=some d:=by
 obtain ⟨_,h2⟩:=h.ty t T ht
 cases T with
 | int k=>exact ⟨_,h2⟩
 | bool=>exact ⟨_,h2⟩
 | str=>exact ⟨_,h2⟩
 | pt=>obtain ⟨e,h2⟩:=h2; exact ⟨_,h2⟩
 | sl e=>obtain ⟨te,ie,hu,_⟩:=h2; exact ⟨_,hu⟩
 | st u=>
  obtain ⟨_,h2⟩:=h2
  cases ha:S.ar t with
  | none=>rw [ha] at h2; obtain ⟨fs,hu,_⟩:=h2; exact ⟨_,hu⟩
  | some p=>rw [ha] at h2; obtain ⟨te,hu,_⟩:=h2; exact ⟨_,hu⟩
theorem dD {bx:Bx S.C} {ids:List Nat} {i:Nat} {B:b7 S.C} (h:restrict S bx ids i=some B):bx i=some B:=by
 unfold restrict at h
 cases e:ids.contains i with
 | true=>rw [e] at h; exact h
 | false=>rw [e] at h; cases h
variable {w0:World} {M0 s0:St} {dq:List Deferred} {env:Env S.C} {a:Act} {w:World} {μ:Nat→Loc} {K:Act→World→Prop} {Q:Exit→Act→World→Prop} {o:Oper} {V:V S.C} {us:aA S.C}
def Goal (P:Program) (S:aK) (w0:World) (M0 s0:St) (dq:List Deferred) (env:Env S.C) (a:Act) (dst:Option Nat) (V:Sy.V S.C) (us:aA S.C) (K:Act→World→Prop):Prop:=
 ∀ a' w' μ',Inv P S w0 M0 s0 dq (env.apply dst V us) a' w' μ'→a'.tmps.size=a.tmps.size→K a' w'
theorem bg {V V':Sy.V S.C} {us us':aA S.C} (h:(ax S V us).leaf (V',us')):V'=V∧us'=us:=by
 have :(V,us)=(V',us'):=h
 cases this; exact ⟨rfl,rfl⟩
theorem zv {nl:Bool} (h:Inv P S w0 M0 s0 dq env a w μ) (hd: ∀ d,o.dst=some d→d<a.tmps.size) {x:Operand} {B:Nat} (ho:execOp a.eval o=pure (.value (a.eval x)))
 (hnew: ∀ u ∈ us,B≤u.1→u.1<B+16→env.bx u.1=none)
 (hl:(match aE S env.tm x with
  | some .b8=>cond nl (ax S .b8 []) (match dM S o.type with
   | some e=>ax S (.aP B e []) [(B, .tail)]
   | none=> .fail)
  | some v=>ax S v []
  | none=> .fail).leaf (V,us)) (hK:Goal P S w0 M0 s0 dq env a o.dst V us K):o.wp P a w K Q:=by
 have hrun:(execOp a.eval o).run P w= .ok (.value (a.eval x)) w:=by rw [ho]; rfl
 split at hl
 · rename_i hx
   obtain ⟨hv,_⟩:=aW h hx
   cases nl with
   | true=>
    obtain ⟨rfl,rfl⟩:=bg hl
    exact wp_pure h hrun hd hv (by simp [aq,ak]) hK
   | false=>
   rw [cond_false] at hl
   split at hl
   · rename_i e he
     obtain ⟨rfl,rfl⟩:=bg hl
     have hB:=hnew (B, .tail) (by simp) (Nat.le_refl _) (by show B<B+16; omega)
     have hv:a.eval x= .slice none 0 0:=hv
     refine nD (i:=B) (B:= .tail) (L:=⟨0,0,0,0,true,fun _ _=>False⟩) h hrun hd (aO.refl w _) hB (fun b o hf=> ?_) (fun _ _ _=>⟨fun j hj=>absurd hj (Nat.not_lt_zero j), ?_⟩) (by simp) (fun j hj=> .inl (by simpa [aq,ak] using hj)) hK
     · have h1:=hf.2.1; have h2:=hf.2.2; simp at h2
     · rw [hv]
       refine ⟨⟨rfl,1,none,0,rfl,Nat.le_refl _, .inl rfl⟩,fun _=>⟨none,0,rfl, ?_⟩⟩
       rw [aI]
       exact .inl ⟨rfl,rfl,rfl⟩
   · exact hl.elim
 · rename_i v hne hx
   obtain ⟨rfl,rfl⟩:=bg hl
   obtain ⟨hv,hr⟩:=aW h hx
   exact wp_pure h hrun hd hv hr hK
 · exact hl.elim
theorem mH {w:World} {s:St} {k:IntKind} {n:Int} {v:Value} (h:bT S w s (.int k) n v):v= .int k n:=by
 obtain ⟨ha,m,hm⟩:=h
 cases m with
 | zero=>exact hm.elim
 | succ m=>exact kI hm ha
theorem nK {w:World} {s:St} {b:Bool} {v:Value} (h:bT S w s .bool b v):v= .bool b:=by
 obtain ⟨ha,m,hm⟩:=h
 cases m with
 | zero=>exact hm.elim
 | succ m=>exact kI hm ha
theorem nL {w:World} {s:St} {b:List UInt8} {v:Value} (h:bT S w s .str b v):v= .string ⟨b.toArray⟩:=by
 obtain ⟨ha,m,hm⟩:=h
 cases m with
 | zero=>exact hm.elim
 | succ m=>exact kI hm ha
theorem ji {w:World} {s:St} {e:Ty} {l:List (e.den S.C)} {v:Value} (h:bT S w s (.sl e) l v):
 ∃ a cap,v= .slice a l.length cap∧l.length≤cap∧(l.length=0∨ ∃ b o n,a=some ⟨b,o,none⟩∧qZ S (fun t x cs=>av S w s n t x cs) w s e b o l):=by
 obtain ⟨ha,m,hm⟩:=h
 cases m with
 | zero=>exact hm.elim
 | succ m=>
  obtain ⟨a,cap,h1,h2,h3⟩:=hm
  exact ⟨a,cap,kI h1 ha,h2,h3.imp id fun ⟨b,o,h4,h5⟩=>⟨b,o,m,h4,h5⟩⟩
theorem iq (w:World) (s:St) (k:IntKind) (n:Int):bT S w s (.int k) n (.int k n):=⟨rfl,1,rfl⟩
theorem lN (w:World) (s:St) (b:Bool):bT S w s .bool b (.bool b):=⟨rfl,1,rfl⟩
theorem tQ (w:World) (s:St) (b:List UInt8):bT S w s .str b (.string ⟨b.toArray⟩):=⟨rfl,1,rfl⟩
theorem iH {w:World} {s:St} {bx:Bx S.C} {V:Sy.V S.C} {v:Value} {k:IntKind} {n:Int} (h:RV P S w s μ bx V v) (hi:V.int?=some (k,n)):v= .int k n:=by
 unfold Sy.V.int? at hi
 split at hi
 · cases hi; exact mH h
 · cases hi
theorem wq {w:World} {s:St} {bx:Bx S.C} {V:Sy.V S.C} {v:Value} {b:List UInt8} (h:RV P S w s μ bx V v) (hi:V.nv=some b):v= .string ⟨b.toArray⟩:=by
 unfold Sy.V.nv at hi
 split at hi
 · cases hi; exact nL h
 · cases hi
theorem BL {w:World} {s:St} {bx:Bx S.C} {V:Sy.V S.C} {v:Value} {b:Bool} (h:RV P S w s μ bx V v) (hi:V.bool?=some b):v= .bool b:=by
 unfold Sy.V.bool? at hi
 split at hi
 · cases hi; exact nK h
 · cases hi; exact h
 · cases hi
theorem Cq (h:Inv P S w0 M0 s0 dq env a w μ) {x:Operand} {b:Bool} (hx:aE S env.tm x=some (.d .bool b)):a.eval x= .bool b:=
 nK (aW h hx).1
theorem Le (h:Inv P S w0 M0 s0 dq env a w μ) (hd: ∀ d,o.dst=some d→d<a.tmps.size) {c x y:Operand} (ho:o.op= .pick c x y)
 (hl:(match aE S env.tm c with
  | some (.d .bool b)=>match (b:Bool) with
   | true=>match aE S env.tm x with
    | some v=>ax S v []
    | none=> .fail
   | false=>match aE S env.tm y with
    | some v=>ax S v []
    | none=> .fail
  | _=> .fail).leaf (V,us)) (hK:Goal P S w0 M0 s0 dq env a o.dst V us K):o.wp P a w K Q:=by
 split at hl
 · rename_i b hc
   have hb:=Cq h hc
   cases b with
   | true=>
    dsimp only at hl
    split at hl
    · rename_i v hx
      obtain ⟨rfl,rfl⟩:=bg hl
      obtain ⟨hv,hr⟩:=aW h hx
      exact wp_pure h (by simp [execOp,ho,hb,asBool]) hd hv hr hK
    · exact hl.elim
   | false=>
    dsimp only at hl
    split at hl
    · rename_i v hx
      obtain ⟨rfl,rfl⟩:=bg hl
      obtain ⟨hv,hr⟩:=aW h hx
      exact wp_pure h (by simp [execOp,ho,hb,asBool]) hd hv hr hK
    · exact hl.elim
 · exact hl.elim
end
end Go.Sy
namespace Go.Sy
section
variable {P:Program} {S:aK} {af:Nat→Nat}
variable {w0:World} {M0 s0:St} {dq:List Deferred} {env:Env S.C} {a:Act} {w:World} {μ:Nat→Loc} {K:Act→World→Prop} {Q:Exit→Act→World→Prop} {o:Oper} {V:V S.C} {us:aA S.C}
theorem pK {α:Type} [BEq α] [LawfulBEq α] [DecidableEq α] (x y:α):(x == y)=decide (x=y):=by rw [Bool.eq_iff_iff]; simp
theorem d_ {gs:List Gd} {V':Sy.V S.C} {us':aA S.C} (h:(Tr.gd gs (ax S V' us')).leaf (V,us)):(∀ g ∈ gs,g.p)∧V=V'∧us=us':=by
 obtain ⟨h1,h2⟩:=Tr.zl gs h
 exact ⟨h1,bg h2⟩
theorem G6 {op:BinOp} {k k':IntKind} (hk:DJ op=true∨k=k') {x y:Int} {gs:List Gd} (h:arith S op k x y=some (gs,V)) (hg: ∀ g ∈ gs,g.p) (t:TypeId) (w:World):
 (∃ v,(binOp op t (.int k x) (.int k' y)).run P w= .ok v w∧ ∀ (w1:World) (s:St) (μ:Nat→Loc) (bx:Bx S.C),RV P S w1 s μ bx V v)∧aq S V= []:=by
 cases op <;> simp only [arith] at h <;> cases h
 case add=>rcases hk with hk | rfl; cases hk; exact ⟨⟨_,by simp [binOp,Op.intArith],fun _ _ _ _=>iq ..⟩,rfl⟩
 case sub=>rcases hk with hk | rfl; cases hk; exact ⟨⟨_,by simp [binOp,Op.intArith],fun _ _ _ _=>iq ..⟩,rfl⟩
 case mul=>rcases hk with hk | rfl; cases hk; exact ⟨⟨_,by simp [binOp,Op.intArith],fun _ _ _ _=>iq ..⟩,rfl⟩
 case quo=>
  rcases hk with hk | rfl; cases hk
  have h0: ¬ y=0:=hg _ (List.mem_singleton.2 rfl)
  exact ⟨⟨_,by simp [binOp,Op.intDiv,h0],fun _ _ _ _=>iq ..⟩,rfl⟩
 case rem=>
  rcases hk with hk | rfl; cases hk
  have h0: ¬ y=0:=hg _ (List.mem_singleton.2 rfl)
  exact ⟨⟨_,by simp [binOp,Op.intDiv,h0],fun _ _ _ _=>iq ..⟩,rfl⟩
 case and=>rcases hk with hk | rfl; cases hk; exact ⟨⟨_,by simp [binOp,Op.intBits],fun _ _ _ _=>iq ..⟩,rfl⟩
 case shl=>
  have h0:0≤y:=hg _ (List.mem_singleton.2 rfl)
  have h0': ¬ y<0:=by omega
  exact ⟨⟨_,by simp [binOp,Op.shift,h0'],fun _ _ _ _=>iq ..⟩,rfl⟩
 case shr=>
  have h0:0≤y:=hg _ (List.mem_singleton.2 rfl)
  have h0': ¬ y<0:=by omega
  exact ⟨⟨_,by simp [binOp,Op.shift,h0'],fun _ _ _ _=>iq ..⟩,rfl⟩
 case eql=>rcases hk with hk | rfl; cases hk; exact ⟨⟨.bool (decide (x=y)),by simp [binOp,Op.intCmp,pK],fun _ _ _ _=>rfl⟩,rfl⟩
 case neq=>rcases hk with hk | rfl; cases hk; exact ⟨⟨.bool (decide (x≠y)),by simp [binOp,Op.intCmp,bne,pK],fun _ _ _ _=>rfl⟩,rfl⟩
 case lss=>rcases hk with hk | rfl; cases hk; exact ⟨⟨.bool (decide (x<y)),by simp [binOp,Op.intCmp],fun _ _ _ _=>rfl⟩,rfl⟩
 case leq=>rcases hk with hk | rfl; cases hk; exact ⟨⟨.bool (decide (x≤y)),by simp [binOp,Op.intCmp],fun _ _ _ _=>rfl⟩,rfl⟩
 case gtr=>rcases hk with hk | rfl; cases hk; exact ⟨⟨.bool (decide (y<x)),by simp [binOp,Op.intCmp],fun _ _ _ _=>rfl⟩,rfl⟩
 case geq=>rcases hk with hk | rfl; cases hk; exact ⟨⟨.bool (decide (y≤x)),by simp [binOp,Op.intCmp],fun _ _ _ _=>rfl⟩,rfl⟩
theorem Np {op:BinOp} {x y:List UInt8} {gs:List Gd} (h:A7 S op x y=some (gs,V)) (hg: ∀ g ∈ gs,g.p) (t:TypeId) (w:World):
 (∃ v,(binOp op t (.string ⟨x.toArray⟩) (.string ⟨y.toArray⟩)).run P w= .ok v w∧ ∀ (w1:World) (s:St) (μ:Nat→Loc) (bx:Bx S.C),RV P S w1 s μ bx V v)∧aq S V= []:=by
 cases op <;> simp only [A7] at h <;> cases h
 case add=>
  have h0:x.length+y.length≤9223372036854775807:=hg _ (List.mem_singleton.2 rfl)
  refine ⟨⟨.string ⟨(x++y).toArray⟩, ?_,fun _ _ _ _=>tQ ..⟩,rfl⟩
  have h1: ¬ (IntKind.i64.max<((ByteArray.size ⟨x.toArray⟩+ByteArray.size ⟨y.toArray⟩:Nat):Int)):=by
   show ¬ ((9223372036854775807:Int)<((x.toArray.size+y.toArray.size:Nat):Int))
   simp; omega
  have h2:(⟨x.toArray⟩:ByteArray)++⟨y.toArray⟩=⟨(x++y).toArray⟩:=by
   apply ByteArray.ext; simp
  simp only [binOp,Op.stringOp]
  rw [if_neg h1,h2]
  rfl
 case eql=>exact ⟨⟨.bool (decide (x=y)),by simp [binOp,Op.stringOp,pK],fun _ _ _ _=>rfl⟩,rfl⟩
 case neq=>exact ⟨⟨.bool (decide (x≠y)),by simp [binOp,Op.stringOp,pK],fun _ _ _ _=>rfl⟩,rfl⟩
def zM:Value→Bool
 | .agg _ | .nilIface=>false
 | _=>true
theorem xM {op:BinOp} {t:TypeId} {x y:Operand} {v u:Value} (h:zM v=true) (w:World):(eqGuard op t x y v u).run P w= .ok () w:=by
 unfold eqGuard
 cases v <;> first | (simp [zM] at h; done) | (simp; done) | (simp; split <;> rfl)
theorem MA (d:Nat) {t:TypeId} (hu:P.underlying t=some .bool) (b c:Bool) (w:World):(Op.equalIn (d+1) t (.bool b) (.bool c)).run P w= .ok (b == c) w:=by
 unfold Op.equalIn
 simp [run_underlying hu]
theorem Ff {t:TypeId} (hu:P.underlying t=some .bool) (b c:Bool) (w:World):(Op.equal t (.bool b) (.bool c)).run P w= .ok (b == c) w:=MA 9999 hu b c w
theorem MB (d:Nat) {t e:TypeId} (hu:P.underlying t=some (.pointer e))  (w:World):(Op.equalIn (d+1) t (.pointer none) (.pointer none)).run P w= .ok true w:=by
 unfold Op.equalIn
 simp [run_underlying hu]
theorem Fg {t e:TypeId} (hu:P.underlying t=some (.pointer e))  (w:World):(Op.equal t (.pointer none) (.pointer none)).run P w= .ok true w:=MB 9999 hu w
theorem MC (d:Nat) {t e:TypeId} (hu:P.underlying t=some (.pointer e)) (p:Addr) (w:World):(Op.equalIn (d+1) t (.pointer (some p)) (.pointer none)).run P w= .ok false w:=by
 unfold Op.equalIn
 simp [run_underlying hu]
theorem Fh {t e:TypeId} (hu:P.underlying t=some (.pointer e)) (p:Addr) (w:World):(Op.equal t (.pointer (some p)) (.pointer none)).run P w= .ok false w:=MC 9999 hu p w
theorem Hj (hP:aL P S af) (h:Inv P S w0 M0 s0 dq env a w μ) (hd: ∀ d,o.dst=some d→d<a.tmps.size) {op:BinOp} {t t':TypeId} {x y:Operand} (ho:o.op= .binOp op t x y t')
 (hl:(match aE S env.tm x,aE S env.tm y with
  | some p,some q=>match ux S op t p q with
   | some (gs,v)=>Tr.gd gs (ax S v [])
   | none=> .fail
  | _,_=> .fail).leaf (V,us)) (hK:Goal P S w0 M0 s0 dq env a o.dst V us K):o.wp P a w K Q:=by
 split at hl
 · rename_i p q hx hy
   split at hl
   · rename_i gs v hb
     obtain ⟨hg,rfl,rfl⟩:=d_ hl
     obtain ⟨ct,_⟩:=aW h hx
     obtain ⟨dV,_⟩:=aW h hy
     have fin: ∀ (v1 v2:Value),a.eval x=v1→a.eval y=v2→zM v1=true→
      ((∃ v,(binOp op t v1 v2).run P w= .ok v w∧ ∀ (w1:World) (s:St) (μ:Nat→Loc) (bx:Bx S.C),RV P S w1 s μ bx V v)∧aq S V= [])→o.wp P a w K Q:=by
      rintro v1 v2 e1 e2 ha ⟨⟨v,hr,hv⟩,hid⟩
      refine wp_pure h (v:=v) ?_ hd (hv ..) (by simp [hid]) hK
      unfold execOp
      simp only [ho,e1,e2]
      simp [xM ha,hr]
     unfold ux at hb
     split at hb
     · rename_i k i k' j h1 h2
       split at hb
       · rename_i hk
         exact fin _ _ (iH ct h1) (iH dV h2) rfl (G6 hk hb hg t w)
       · cases hb
     · split at hb
       · rename_i h1 h2
         exact fin _ _ (wq ct h1) (wq dV h2) rfl (Np hb hg t w)
       · split at hb
         · rename_i b c h1 h2
           have e1:=BL ct h1
           have e2:=BL dV h2
           cases hty:S.ty t with
           | none=>rw [hty] at hb; cases hb
           | some T=>
            rw [hty] at hb
            cases T with
            | bool=>
             have hu:P.underlying t=some .bool:=(hP.ty t _ hty).2
             refine fin _ _ e1 e2 rfl ?_
             dsimp only [cond] at hb
             split at hb <;> cases hb
             · exact ⟨⟨.bool (decide (b=c)),by simp [binOp,Ff hu,pK],fun _ _ _ _=>rfl⟩,rfl⟩
             · exact ⟨⟨.bool (decide (b≠c)),by simp [binOp,Ff hu,pK],fun _ _ _ _=>rfl⟩,rfl⟩
            | _=>cases hb
         · cases yR:S.pt t with
           | false=>rw [yR] at hb; cases hb
           | true=>
            rw [yR] at hb
            obtain ⟨e,hu⟩:=hP.pt t yR
            dsimp only [cond] at hb
            split at hb
            · have e1:a.eval x= .pointer none:=ct
              have e2:a.eval y= .pointer none:=dV
              refine fin _ _ e1 e2 rfl ?_
              split at hb <;> cases hb
              · exact ⟨⟨.bool true,by simp [binOp,Fg hu],fun _ _ _ _=>lN ..⟩,rfl⟩
              · exact ⟨⟨.bool false,by simp [binOp,Fg hu],fun _ _ _ _=>lN ..⟩,rfl⟩
            · rename_i b off
              have e2:a.eval y= .pointer none:=dV
              have e1:a.eval x=_:=ct
              refine fin _ _ e1 e2 rfl ?_
              split at hb <;> cases hb
              · exact ⟨⟨.bool false,by simp [binOp,Fh hu],fun _ _ _ _=>lN ..⟩,rfl⟩
              · exact ⟨⟨.bool true,by simp [binOp,Fh hu],fun _ _ _ _=>lN ..⟩,rfl⟩
            · cases hb
   · exact hl.elim
 · exact hl.elim
end
end Go.Sy
namespace Go.Sy
section
variable {P:Program} {S:aK} {af:Nat→Nat}
variable {w0:World} {M0 s0:St} {dq:List Deferred} {env:Env S.C} {a:Act} {w:World} {μ:Nat→Loc} {K:Act→World→Prop} {Q:Exit→Act→World→Prop} {o:Oper} {V:V S.C} {us:aA S.C}
theorem jl {t:Nat} {e:Ty} (h:dM S t=some e):S.ty t=some (.sl e):=by
 unfold dM at h
 split at h
 · rename_i e' he; cases h; exact he
 · cases h
theorem aL.sl (hP:aL P S af) {t:Nat} {e:Ty} (h:S.ty t=some (.sl e)): ∃ te ie z,P.underlying t=some (.slice te)∧S.ty te=some e∧P.info? te=some ie∧ie.bytes=af t∧1≤af t∧ie.size=Ty.sz S e∧ie.zero=some z∧isAgg z=aZ e∧z.cells.toList=pq S e:=by
 obtain ⟨_,te,ie,h1,h2,h3,h4,h5⟩:=hP.ty t _ h
 obtain ⟨⟨i,z,g1,g2,g3,g4,g5⟩,_⟩:=hP.ty te e h2
 rw [h3] at g1
 cases g1
 exact ⟨te,ie,z,h1,h2,h3,h4,h5,g2,g3,g4,g5⟩
theorem vX (hP:aL P S af) {t:Nat} {e:Ty} (ht:S.ty t=some (.sl e)) {b o' n cap:Nat} {k:IntKind} {i:Int} (h0:0≤i) (h1:i<(n:Int)) (w:World):
 (Instr.indexAt t (.slice (some ⟨b,o',none⟩) n cap) (.int k i)).run P w= .ok (.pointer (some ⟨b,o'+i.toNat*Ty.sz S e,none⟩)) w:=by
 obtain ⟨te,ie,z,hu,he,_⟩:=hP.sl ht
 simp [Instr.indexAt,asIntOf,run_underlying hu,h0,h1,hP.size he w,Addr.add_mid]
theorem nW {e:Ty} {l:List (e.den S.C)} {i:Int} (h0:0≤i) (h1:i<(l.length:Int)):l[i.toNat]? =some (gi S e l i):=by
 have :i.toNat<l.length:=by omega
 unfold gi
 rw [List.getD_eq_getElem?_getD,List.getElem?_eq_getElem this]
 rfl
theorem Ee {b:Nat} {i:Int} {p:Sy.V S.C×aA S.C} : ∀ (n j:Nat),(zL S b i j n).leaf p→ ∃ k:Nat,i=(k:Int)∧p=(.ptr b k,[])
 | 0,_,h=>h.elim
 | n+1,j,h=>by
  rcases h with ⟨h1,h2⟩ | ⟨_,h2⟩
  · exact ⟨j,h1,h2.symm⟩
  · exact Ee n (j+1) h2
theorem Kj (hP:aL P S af) (h:Inv P S w0 M0 s0 dq env a w μ) (hd: ∀ d,o.dst=some d→d<a.tmps.size) {t:TypeId} {x i:Operand} {ids:List Nat} (ho:o.op= .indexAddr t x i)
 (hl:(match dM S t,aE S env.tm x,aE S env.tm i with
  | some e,some v,some w=>match w.int? with
   | some (_,n)=>zc S e (restrict S env.bx ids) n v
   | none=> .fail
  | _,_,_=> .fail).leaf (V,us)) (hK:Goal P S w0 M0 s0 dq env a o.dst V us K):o.wp P a w K Q:=by
 split at hl
 · rename_i e v wv het hx hi
   have ht:=jl het
   obtain ⟨hv,cR⟩:=aW h hx
   obtain ⟨lV,_⟩:=aW h hi
   split at hl
   · rename_i k n hn
     have hin:=iH lV hn
     have data: ∀ (e':Ty) (l:List (e'.den S.C)),bT S w (ay S w0 M0 s0 env.bx μ w) (.sl e') l (a.eval x)→(if e'=e then Tr.gd (cX n l.length) (ax S (.cH e' (gi S e' l n)) []) else .fail).leaf (V,us)→o.wp P a w K Q:=by
      intro e' l hr hl1
      clear hl
      split at hl1
      · rename_i he
        subst he
        obtain ⟨hg,rfl,rfl⟩:=d_ hl1
        have g0:0≤n:=hg ⟨0≤n,inferInstance⟩ (by simp [cX,gd])
        have g1:n<(l.length:Int):=hg ⟨n<(l.length:Int),inferInstance⟩ (by simp [cX,gd])
        obtain ⟨ad,cap,e1,e2,e3⟩:=ji hr
        rcases e3 with e3 | ⟨b,o',m,rfl,hel⟩
        · omega
        · obtain ⟨ds,d1,d2,d3⟩:=hel n.toNat _ (nW g0 g1)
          refine wp_pure (V:= .cH e' (gi S e' l n)) h (v:= .pointer (some ⟨b,o'+n.toNat*Ty.sz S e',none⟩)) ?_ hd ⟨b,_,ds,rfl,d2,d1,m,d3⟩ (by simp [aq,ak]) hK
          unfold execOp
          simp only [ho,e1,hin]
          simp [vX hP ht g0 g1]
      · exact hl1.elim
     have own: ∀ (b:Nat) (e':Ty) (l:List (e'.den S.C)),v= .az b→(env.bx b=some (.arr e' l)∨env.bx b=some (.bn e' l))→(if e'=e then Tr.gd (cX n l.length) (ax S (.cG b n 0) []) else .fail).leaf (V,us)→o.wp P a w K Q:=by
      intro b e' l sL hb hl1
      clear hl
      split at hl1
      · rename_i he
        subst he
        obtain ⟨hg,rfl,rfl⟩:=d_ hl1
        have g0:0≤n:=hg ⟨0≤n,inferInstance⟩ (by simp [cX,gd])
        have g1:n<(l.length:Int):=hg ⟨n<(l.length:Int),inferInstance⟩ (by simp [cX,gd])
        subst sL
        obtain ⟨ad,cap,e1,hao⟩:=hv.2 e' l hb
        have yM:(μ b).nil=false:=by
         cases fB:(μ b).nil with
         | false=>rfl
         | true=>have :=hao.isNil fB; have :=hao.dU; have :=hao.fits; omega
        have had:ad=some ⟨(μ b).b,(μ b).o,none⟩:=by rw [hao.addr,yM]; rfl
        subst had
        refine wp_pure (V:= .cG b n 0) h (v:= .pointer (some ⟨(μ b).b,(μ b).o+n.toNat*Ty.sz S e',none⟩)) ?_ hd ⟨⟨⟨_,rfl⟩,fun o7 l'' Lj gA=>by rcases hb with hb | hb <;> · rw [hb] at gA; cases gA⟩,fun e'' l'' gA=> ?_⟩ (fun j hj=>cR j (by simpa [aq,ak] using hj)) hK
        · unfold execOp
          simp only [ho,e1,hin]
          simp [vX hP ht g0 g1]
        · have :(∃ h:e''=e',h▸l''=l):=by
           rcases hb with hb | hb <;> rcases gA with gA | gA <;> rw [hb] at gA <;> cases gA <;> exact ⟨rfl,rfl⟩
          obtain ⟨rfl,rfl⟩:=this
          exact ⟨g0,by show n.toNat<l''.length; have g1:n<(l''.length:Int):=g1; omega,rfl⟩
      · exact hl1.elim
     have row: ∀ (b u:Nat) (l:List (S.C u)) (q:Option Int),v= .az b→env.bx b=some (.aF u l q)→(if .st u=e then Tr.gd (cX n l.length) (ax S (.cG b n 0) []) else .fail).leaf (V,us)→o.wp P a w K Q:=by
      intro b u l q sL hb hl1
      clear hl
      split at hl1
      · rename_i he
        subst he
        obtain ⟨hg,rfl,rfl⟩:=d_ hl1
        have g0:0≤n:=hg ⟨0≤n,inferInstance⟩ (by simp [cX,gd])
        have g1:n<(l.length:Int):=hg ⟨n<(l.length:Int),inferInstance⟩ (by simp [cX,gd])
        subst sL
        obtain ⟨ad,cap,e1,hao⟩:=hv.1.2 u l q hb
        have yM:(μ b).nil=false:=by
         cases fB:(μ b).nil with
         | false=>rfl
         | true=>have :=hao.isNil fB; have :=hao.dU; have :=hao.fits; omega
        have had:ad=some ⟨(μ b).b,(μ b).o,none⟩:=by rw [hao.addr,yM]; rfl
        subst had
        refine wp_pure (V:= .cG b n 0) h (v:= .pointer (some ⟨(μ b).b,(μ b).o+n.toNat*Ty.sz S (.st u),none⟩)) ?_ hd ⟨⟨⟨_,rfl⟩,fun o7 l'' Lj gA=> ?_⟩,fun e'' l'' gA=>by rcases gA with gA | gA <;> · rw [hb] at gA; cases gA⟩ (fun j hj=>cR j (by simpa [aq,ak] using hj)) hK
        · unfold execOp
          simp only [ho,e1,hin]
          simp [vX hP ht g0 g1]
        · rw [hb] at gA; cases gA
          exact ⟨g0,by omega,rfl⟩
      · exact hl1.elim
     unfold zc at hl
     split at hl
     · exact data _ _ hv hl
     · exact data _ _ hv.1 hl
     · rename_i b
       split at hl
       · rename_i hb; exact own _ _ _ rfl (.inl (dD hb)) hl
       · rename_i hb; exact own _ _ _ rfl (.inr (dD hb)) hl
       · rename_i hb; exact row _ _ _ _ rfl (dD hb) hl
       · exact hl.elim
     · rename_i b m
       split at hl
       · rename_i e1
         obtain ⟨hg,hl⟩:=Tr.zl _ hl
         have g0:0≤n:=hg ⟨0≤n,inferInstance⟩ (by simp [cX,gd])
         have g1:n<(m:Int):=hg ⟨n<(m:Int),inferInstance⟩ (by simp [cX,gd])
         obtain ⟨j,hj,hp⟩:=Ee m 0 hl
         cases hp
         have hv:a.eval x= .slice (some ⟨(μ b).b,(μ b).o,none⟩) m m:=hv
         have e2:n.toNat=j:=by omega
         refine wp_pure (V:= .ptr b j) h (v:= .pointer (some ⟨(μ b).b,(μ b).o+j,none⟩)) ?_ hd rfl (fun j hj=>cR j (by simpa [aq,ak] using hj)) hK
         unfold execOp
         simp only [ho,hv,hin]
         have :=vX hP ht (b:=(μ b).b) (o':=(μ b).o) (n:=m) (cap:=m) (k:=k) g0 g1
         rw [e2,show j*Ty.sz S (.sl e1)=j from Nat.mul_one j] at this
         simp [this]
       · exact hl.elim
     · exact hl.elim
   · exact hl.elim
 · exact hl.elim
theorem Kk (hP:aL P S af) (h:Inv P S w0 M0 s0 dq env a w μ) (hd: ∀ d,o.dst=some d→d<a.tmps.size) {t:TypeId} {x i:Operand} (ho:o.op= .index t x i)
 (hl:(match aE S env.tm x,aE S env.tm i with
  | some v,some w=>match S.ty t,v.nv,w.int? with
   | some .str,some s,some (_,n)=>Tr.gd (cX n s.length) (ax S (.d (.int .u8) (((s.getD n.toNat 0).toNat:Nat):Int)) [])
   | _,_,_=> .fail
  | _,_=> .fail).leaf (V,us)) (hK:Goal P S w0 M0 s0 dq env a o.dst V us K):o.wp P a w K Q:=by
 split at hl
 · rename_i v wv hx hi
   obtain ⟨hv,cR⟩:=aW h hx
   obtain ⟨lV,_⟩:=aW h hi
   split at hl
   · rename_i s k n ht hs hn
     obtain ⟨hg,rfl,rfl⟩:=d_ hl
     have g0:0≤n:=hg ⟨0≤n,inferInstance⟩ (by simp [cX,gd])
     have g1:n<(s.length:Int):=hg ⟨n<(s.length:Int),inferInstance⟩ (by simp [cX,gd])
     have hu:P.underlying t=some .string:=(hP.ty t _ ht).2
     have hlt:n.toNat<s.length:=by omega
     refine wp_pure (V:= .d (.int .u8) (((s.getD n.toNat 0).toNat:Nat):Int)) h (v:= .int .u8 (((s.getD n.toNat 0).toNat:Nat):Int)) ?_ hd (iq ..) (by simp [aq,ak]) hK
     unfold execOp
     simp only [ho,wq hv hs,iH lV hn]
     have e1:(⟨s.toArray⟩:ByteArray)[n.toNat]? =some (s.getD n.toNat 0):=by
      rw [List.getD_eq_getElem?_getD,List.getElem?_eq_getElem hlt]
      show (if h:n.toNat<s.toArray.size then some _ else none)=_
      rw [dif_pos (by simpa using hlt)]
      rfl
     simp [Instr.index,asIntOf,run_underlying hu,g0,e1]
   · exact hl.elim
 · exact hl.elim
theorem Iz (h:Inv P S w0 M0 s0 dq env a w μ) (hd: ∀ d,o.dst=some d→d<a.tmps.size) {x:Operand} {i:Nat} (ho:o.op= .extract x i)
 (hl:(match aE S env.tm x with
  | some (.gG vs)=>match vs[i]? with
   | some v=>ax S v []
   | none=> .fail
  | _=> .fail).leaf (V,us)) (hK:Goal P S w0 M0 s0 dq env a o.dst V us K):o.wp P a w K Q:=by
 split at hl
 · rename_i vs hx
   obtain ⟨⟨cs,hv,hvs⟩,cR⟩:=aW h hx
   split at hl
   · rename_i v hi
     obtain ⟨rfl,rfl⟩:=bg hl
     obtain ⟨c,hc,hr⟩:=aB.get P S i hvs hi
     refine wp_pure h (v:=c) ?_ hd (jh hr) (fun j hj=> ?_) hK
     · unfold execOp
       have :cs[i]? =some c:=by simpa using hc
       simp only [ho,hv]
       simp [Instr.extract,this]
     · refine cR j ?_
       simp only [aq,List.mem_flatMap]
       refine ⟨V,List.mem_of_getElem? hi, ?_⟩
       cases V <;> first | exact hj | exact (hr:False).elim
   · exact hl.elim
 · exact hl.elim
theorem K6 (h:Inv P S w0 M0 s0 dq env a w μ) (hd: ∀ d,o.dst=some d→d<a.tmps.size) {x:Operand} (ho:o.op= .nilCheck x)
 (hl:(match aE S env.tm x with
  | some (.ptr b o)=>ax S (.ptr b o) []
  | some (.cH t x)=>ax S (.cH t x) []
  | some (.cG b i p)=>ax S (.cG b i p) []
  | some (.split b c)=>ax S (.split b c) []
  | _=> .fail).leaf (V,us)) (hK:Goal P S w0 M0 s0 dq env a o.dst V us K):o.wp P a w K Q:=by
 have fin: ∀ ad,a.eval x= .pointer (some ad)→aE S env.tm x=some V→us= []→o.wp P a w K Q:=by
  rintro ad he hx rfl
  obtain ⟨hv,hr⟩:=aW h hx
  refine wp_pure h (v:=a.eval x) ?_ hd hv hr hK
  unfold execOp
  simp only [ho,he]
  rfl
 split at hl
 · rename_i b off hx
   obtain ⟨rfl,rfl⟩:=bg hl
   have hv:a.eval x=_:=(aW h hx).1
   exact fin _ hv hx rfl
 · rename_i t y hx
   obtain ⟨rfl,rfl⟩:=bg hl
   obtain ⟨b,o',ds,hv,_⟩:=(aW h hx).1
   exact fin _ hv hx rfl
 · rename_i b i p hx
   obtain ⟨rfl,rfl⟩:=bg hl
   obtain ⟨⟨⟨ad,hv⟩,_⟩,_⟩:=(aW h hx).1
   exact fin _ hv hx rfl
 · rename_i b c hx
   obtain ⟨rfl,rfl⟩:=bg hl
   obtain ⟨k,q,hv,_⟩:=(aW h hx).1
   exact fin _ hv hx rfl
 · exact hl.elim
theorem Ol (h:Inv P S w0 M0 s0 dq env a w μ) (hd: ∀ d,o.dst=some d→d<a.tmps.size) {op:UnOp} {t:TypeId} {x:Operand} (ho:o.op= .unOp op t x)
 (hl:(match op,aE S env.tm x with
  | .not,some (.pr p i)=>ax S (.pr (¬ p) (@instDecidableNot p i)) []
  | .not,some (.d .bool b)=>ax S (.d .bool (Bool.not b)) []
  | .neg,some v=>match v.int? with
   | some (k,n)=>ax S (.d (.int k) (k.wrap (0 - n))) []
   | none=> .fail
  | _,_=> .fail).leaf (V,us)) (hK:Goal P S w0 M0 s0 dq env a o.dst V us K):o.wp P a w K Q:=by
 split at hl
 · rename_i p i hx
   obtain ⟨rfl,rfl⟩:=bg hl
   have hv:a.eval x= .bool (decide p):=(aW h hx).1
   refine wp_pure h (v:= .bool (!decide p)) ?_ hd ?_ (by simp [aq,ak]) hK
   · unfold execOp; simp only [ho,hv]; rfl
   · show Value.bool (!decide p)= .bool (decide (¬ p))
     simp
 · rename_i b hx
   obtain ⟨rfl,rfl⟩:=bg hl
   have hv:=nK (aW h hx).1
   refine wp_pure (V:= .d .bool (Bool.not b)) h (v:= .bool (Bool.not b)) ?_ hd (lN ..) (by simp [aq,ak]) hK
   unfold execOp; simp only [ho,hv]; rfl
 · rename_i v hx
   split at hl
   · rename_i k n hn
     obtain ⟨rfl,rfl⟩:=bg hl
     have hv:=iH (aW h hx).1 hn
     refine wp_pure (V:= .d (.int k) (k.wrap (0 - n))) h (v:= .int k (k.wrap (0 - n))) ?_ hd (iq ..) (by simp [aq,ak]) hK
     unfold execOp; simp only [ho,hv]; rfl
   · exact hl.elim
 · exact hl.elim
theorem foldl_push: ∀ (l:List Int) (r:ByteArray),l.foldl (fun r n=>r.push (UInt8.ofNat n.toNat)) r=⟨r.data++(bytesOf l).toArray⟩
 | [],r=>by simp [bytesOf]
 | n::l,r=>by
  rw [List.foldl_cons,foldl_push l]
  simp [bytesOf,ByteArray.push]
theorem My {P:Program} {w:World} {s t te:TypeId} (q:List Int) (b o cap:Nat) (sJ:P.underlying s=some (.slice te)) (yT:P.underlying te=some (.int .u8)) (p_:P.underlying t=some .string)
 (hc: ∀ j x,q[j]? =some x→w.cell? ⟨b,o+j,none⟩=some (.int .u8 x)):(convert s t (.slice (some ⟨b,o,none⟩) q.length cap)).run P w= .ok (.string ⟨(bytesOf q).toArray⟩) w:=by
 have hcells:(loadCells ⟨b,o,none⟩ q.length).run P w= .ok (q.map (Value.int .u8)).toArray w:=by
  have :=run_loadCells_list (P:=P) (w:=w) ⟨b,o,none⟩ (q.map (Value.int .u8)) (fun j v hj=>by
   rw [List.getElem?_map] at hj
   obtain ⟨x,hx,rfl⟩:=Option.map_eq_some_iff.1 hj
   rw [Addr.add_lit]; exact hc j x hx)
  rw [List.length_map] at this
  exact this
 have hrun:=run_bytesToString (P:=P) w ⟨b,o,none⟩ q.length cap q hcells
 rw [foldl_push] at hrun
 rw [run_convert_bytes_string w s t te (some ⟨b,o,none⟩) q.length cap sJ yT p_,hrun]
 simp
theorem H9 (hP:aL P S af) (h:Inv P S w0 M0 s0 dq env a w μ) (hd: ∀ d,o.dst=some d→d<a.tmps.size) {s t:TypeId} {x:Operand} {ids:List Nat} (ho:o.op= .convert s t x)
 (hl:(match S.ty s,S.ty t,aE S env.tm x with
  | some _,some (.int k),some v=>match v.int? with
   | some (_,n)=>ax S (.d (.int k) (k.wrap n)) []
   | none=> .fail
  | some T,some .str,some v=>match v.nv with
   | some s=>ax S (.d .str s) []
   | none=>match T,v with
    | .sl (.int .u8), .az b=>match restrict S env.bx ids b with
     | some (.arr (.int .u8) (n::l))=>ax S (.d .str (bytesOf (n::l))) []
     | _=> .fail
    | _,_=> .fail
  | _,_,_=> .fail).leaf (V,us)) (hK:Goal P S w0 M0 s0 dq env a o.dst V us K):o.wp P a w K Q:=by
 split at hl
 · rename_i T k v hs ht hx
   obtain ⟨d,hu⟩:=hP.Gg hs
   split at hl
   · rename_i k' n hn
     obtain ⟨rfl,rfl⟩:=bg hl
     have hv:=iH (aW h hx).1 hn
     have p_:P.underlying t=some (.int k):=(hP.ty t _ ht).2
     refine wp_pure (V:= .d (.int k) (k.wrap n)) h (v:= .int k (k.wrap n)) ?_ hd (iq ..) (by simp [aq,ak]) hK
     unfold execOp
     simp only [ho,hv]
     simp [convert,run_underlying hu,run_underlying p_,Conv.intToInt]
   · exact hl.elim
 · rename_i T v hs ht hx
   obtain ⟨d,hu⟩:=hP.Gg hs
   have p_:P.underlying t=some .string:=(hP.ty t _ ht).2
   split at hl
   · rename_i b hn
     obtain ⟨rfl,rfl⟩:=bg hl
     have hv:=wq (aW h hx).1 hn
     refine wp_pure (V:= .d .str b) h (v:= .string ⟨b.toArray⟩) ?_ hd (tQ ..) (by simp [aq,ak]) hK
     unfold execOp
     simp only [ho,hv]
     simp [convert,run_underlying hu,run_underlying p_]
   · split at hl
     · rename_i b _
       split at hl
       · rename_i n l fV
         obtain ⟨rfl,rfl⟩:=bg hl
         have hb:=dD fV
         obtain ⟨te,ie,sJ,hte,_⟩:=(hP.ty s _ hs).2
         have yT:P.underlying te=some (.int .u8):=(hP.ty te _ hte).2
         obtain ⟨_,hv⟩:=(aW h hx).1
         obtain ⟨ad,cap,hv,hA⟩:=hv _ _ (.inl hb)
         have hR:=h.bw b _ hb
         have fB:(μ b).nil=false:=by
          cases hn:(μ b).nil with
          | false=>rfl
          | true=>
           have h1:=hA.isNil hn
           have h2:=hA.fits
           have h3:=hA.dU
           simp only [List.length_cons] at h2
           omega
         have had:ad=some ⟨(μ b).b,(μ b).o,none⟩:=by rw [hA.addr,fB]; rfl
         refine wp_pure (V:= .d .str (bytesOf (n::l))) h (v:= .string ⟨(bytesOf (n::l)).toArray⟩) ?_ hd (tQ ..) (by simp [aq,ak]) hK
         unfold execOp
         simp only [ho]
         rw [show a.eval x=_ from hv,had]
         have e:=My (P:=P) (w:=w) (s:=s) (t:=t) (n::l) (μ b).b (μ b).o cap sJ yT p_ fun j x hx=>by
          obtain ⟨ds,OJ,Jo,m,uW⟩:=hR.2.2.2.2 j x hx
          cases m with
          | zero=>exact uW.elim
          | succ m=>
           have uW:ds= [.int .u8 x]:=uW
           subst uW
           have :=Jo 0 _ rfl
           rw [show Ty.sz S (.int .u8)=1 from rfl,Nat.mul_one,Nat.add_zero] at this
           exact this
         have e:(convert s t (.slice (some ⟨(μ b).b,(μ b).o,none⟩) (l.length+1) cap)).run P w=_:=e
         simp [e,Result.andThen]
       · exact hl.elim
     · exact hl.elim
 · exact hl.elim
end
end Go.Sy
namespace Go.Sy
section
variable {P:Program} {S:aK} {af:Nat→Nat}
variable {w0:World} {M0 s0:St} {dq:List Deferred} {env:Env S.C} {a:Act} {w:World} {μ:Nat→Loc} {K:Act→World→Prop} {Q:Exit→Act→World→Prop} {o:Oper} {V:V S.C} {us:aA S.C}
theorem BD {s:St} {bx:Bx S.C} {t:Ty} (ht:aZ t=false) {V:Sy.V S.C} {v:Value} {x:t.den S.C} (hv:bl P S w s μ bx V v) (hx:cF S (fun _=>none) t V=some x): ∃ n,av S w s n t x [v]:=by
 have hd: ∀ (u:Ty) (y:u.den S.C),bT S w s u y v→dj S u t y=some x→ ∃ n,av S w s n t x [v]:=by
  intro u y hr hc
  obtain ⟨rfl,rfl⟩:=dm hc
  obtain ⟨h1,n,hn⟩:=hr
  rw [av.jV h1 ht] at hn
  exact ⟨n,hn⟩
 cases V with
 | d u y=>exact hd u y hv hx
 | pr p i=>
  obtain ⟨rfl,rfl⟩:=dm hx
  cases hv
  exact ⟨1,rfl⟩
 | aP b e l=>exact hd (.sl e) l hv.1 hx
 | b8=>
  cases t with
  | sl e=>cases hx; cases hv; exact ⟨1,none,0,rfl,Nat.le_refl _, .inl rfl⟩
  | _=>cases hx
 | _=>cases hx
theorem F7 {s:St} {bx:Bx S.C} : ∀ (ts:List Ty) (hts:ts.all (fun t=> !aZ t)=true) {vs:List (Sy.V S.C)} {cs:List Value} {x:ag S.C ts},
 aB P S w s μ bx vs cs→gH S (fun _=>none) ts vs=some x→ ∃ n,a_ S (fun t x cs=>av S w s n t x cs) ts x (cs.take ts.length)
 | [],_,_,cs,_,_,_=>⟨0,by simp [a_]⟩
 | t::ts,hts,[],_,_,_,hx=>by simp [gH] at hx
 | t::ts,hts,V::vs,cs,x,⟨c,r,hcs,hv,hr⟩,hx=>by
  simp only [List.all_cons,Bool.and_eq_true,Bool.not_eq_true'] at hts
  simp only [gH] at hx
  obtain ⟨y,hy,hx⟩:=Option.bind_eq_some_iff.1 hx
  obtain ⟨z,hz,hx⟩:=Option.bind_eq_some_iff.1 hx
  cases hx
  obtain ⟨n,hn⟩:=BD hts.1 hv hy
  obtain ⟨m,hm⟩:=F7 ts hts.2 hr hz
  refine ⟨max n m,c,r.take ts.length,by simp [hcs], ?_, ?_⟩
  · rw [show ag.head (ag.cons y z)=y from by cases ts <;> rfl]
    exact hn.up S (by omega)
  · rw [show ag.tail (ag.cons y z)=z from by cases ts <;> rfl]
    exact a_.mono S (fun t x cs hr=>hr.up S (by omega)) _ _ _ hm
theorem DI (hS:bY S) {s:St} {bx:Bx S.C} {t:Ty} {vs:List (Sy.V S.C)} {cs:List Value} {x:t.den S.C}
 (hv:aB P S w s μ bx vs cs) (hx:gQ S (fun _=>none) t vs=some x): ∃ n,av S w s n t x (cs.take (Ty.sz S t)):=by
 have one:aZ t=false→Ty.sz S t=1→(∃ V r,vs=V::r∧cF S (fun _=>none) t V=some x)→ ∃ n,av S w s n t x (cs.take (Ty.sz S t)):=by
  rintro ht h1 ⟨V,vs',rfl,hx1⟩
  rw [h1]
  obtain ⟨c,r,hcs,hv,hr⟩:=hv
  subst hcs
  exact BD ht hv hx1
 cases t with
 | st u=>
  simp only [gQ] at hx
  obtain ⟨y,hy,hx⟩:=Option.bind_eq_some_iff.1 hx
  cases hx
  obtain ⟨n,hn⟩:=F7 (S.F u) (hS.flat u) hv hy
  refine ⟨n+1, ?_⟩
  show a_ S _ (S.F u) (S.ex u (S.im u y)) _
  rw [hS.kL]
  exact hn
 | int k=>exact one rfl rfl (by cases vs with | nil=>cases hx | cons V r=>exact ⟨V,r,rfl,hx⟩)
 | bool=>exact one rfl rfl (by cases vs with | nil=>cases hx | cons V r=>exact ⟨V,r,rfl,hx⟩)
 | str=>exact one rfl rfl (by cases vs with | nil=>cases hx | cons V r=>exact ⟨V,r,rfl,hx⟩)
 | pt=>exact one rfl rfl (by cases vs with | nil=>cases hx | cons V r=>exact ⟨V,r,rfl,hx⟩)
 | sl e=>exact one rfl rfl (by cases vs with | nil=>cases hx | cons V r=>exact ⟨V,r,rfl,hx⟩)
theorem zJ (P:Program) (hS:bY S) {s:St} {n:Nat} {e:Ty} {x:e.den S.C} {cs:List Value} (h:av S w s n e x cs) {off:Nat} {t:Ty} {y:t.den S.C} (hy:partOf S e x off t=some y):
 ∃ m,av S w s m t y ((cs.drop off).take (Ty.sz S t)):=by
 have he:=(kM (P:=P) hS (fun _=>⟨0,0,0,0,true,fun _ _=>False⟩) (fun _=>none) h).1
 exact DI (P:=P) hS (he.drop P S off) hy
theorem At.part {s:St} {b o':Nat} {cs:List Value} (h:At w s b o' cs) (off n:Nat):At w s b (o'+off) ((cs.drop off).take n):=fun j v hj=>by
 rw [List.getElem?_take] at hj
 split at hj
 · rw [Nat.add_assoc]; exact h (off+j) v (by simpa using hj)
 · cases hj
theorem oF {b o':Nat} {cs:List Value} (h:w.rangeAt b o' cs) (off n:Nat):w.rangeAt b (o'+off) ((cs.drop off).take n):=EF (zV h off) n
theorem At.range {s:St} {b o':Nat} {cs:List Value} (h:At w s b o' cs):w.rangeAt b o' cs:=fun j v hj=>(h j v hj).1
def ee (T:Ty) (ds:List Value):Value:=match T with
 | .st _=> .agg ds.toArray
 | _=>ds.headD Go.undef
theorem run_load (hP:aL P S af) {t:Nat} {T:Ty} (ht:S.ty t=some T) {b o':Nat} {ds:List Value} (hr:w.rangeAt b o' ds) (hl:ds.length=Ty.sz S T):
 (Instr.loadAt t (.pointer (some ⟨b,o',none⟩))).run P w= .ok (ee T ds) w:=by
 have one:aZ T=false→Ty.sz S T=1→ee T ds=ds.headD Go.undef→(Instr.loadAt t (.pointer (some ⟨b,o',none⟩))).run P w= .ok (ee T ds) w:=by
  intro h1 h2 h3
  rw [h2] at hl
  obtain ⟨c,rfl⟩:=List.length_eq_one_iff.1 hl
  have hc:=hr 0 c rfl
  rw [h3]
  have hag:=hP.agg ht w
  rw [h1] at hag
  simp [Instr.loadAt,Instr.sureAddr,loadVar,hag]
  have :w.cell? ⟨b,o',none⟩=some c:=hc
  simp [this]
 cases T with
 | st u=>
  obtain ⟨⟨i,z,h1,h2,_⟩,_,h3⟩:=hP.ty t _ ht
  cases ha:S.ar t with
  | none=>rw [ha] at h3; obtain ⟨fs,hu,_⟩:=h3; exact run_loadAt_mid w b o' t ds (.struct fs) hr hu rfl (by rw [h1]; simp [h2,hl])
  | some p=>rw [ha] at h3; obtain ⟨te,hu,_⟩:=h3; exact run_loadAt_mid w b o' t ds (.array p.1 te) hr hu rfl (by rw [h1]; simp [h2,hl])
 | int k=>exact one rfl rfl rfl
 | bool=>exact one rfl rfl rfl
 | str=>exact one rfl rfl rfl
 | pt=>exact one rfl rfl rfl
 | sl e=>exact one rfl rfl rfl
theorem vD {s:St} {n:Nat} {T:Ty} {x:T.den S.C} {ds:List Value} (h:av S w s n T x ds):bT S w s T x (ee T ds):=by
 have hl:=h.length S
 have one:aZ T=false→Ty.sz S T=1→ee T ds=ds.headD Go.undef→bT S w s T x (ee T ds):=by
  intro h1 h2 h3
  rw [h2] at hl
  obtain ⟨c,rfl⟩:=List.length_eq_one_iff.1 hl
  rw [h3]
  have hc:isAgg c=false:=by
   cases n with
   | zero=>exact h.elim
   | succ n=>cases T with
    | int k=>simp [av] at h; subst h; rfl
    | bool=>simp [av] at h; subst h; rfl
    | str=>simp [av] at h; subst h; rfl
    | pt=>simp [av] at h; subst h; rfl
    | sl e=>obtain ⟨a,cap,h,_⟩:=h; simp at h; subst h; rfl
    | st u=>simp [aZ] at h1
  refine ⟨by rw [h1]; exact hc,n, ?_⟩
  show av S w s n T x c.cells.toList
  rw [av.jV (t:=T) (by rw [hc,h1]) h1]
  exact h
 cases T with
 | st u=>exact ⟨rfl,n,by simpa [ee,Value.cells] using h⟩
 | int k=>exact one rfl rfl rfl
 | bool=>exact one rfl rfl rfl
 | str=>exact one rfl rfl rfl
 | pt=>exact one rfl rfl rfl
 | sl e=>exact one rfl rfl rfl
theorem KS (hP:aL P S af) (h:Inv P S w0 M0 s0 dq env a w μ) (hd: ∀ d,o.dst=some d→d<a.tmps.size) {t:TypeId} {x:Operand} {ids:List Nat} (ho:o.op= .load t x)
 (hl:(match S.ty t,aE S env.tm x with
  | some T,some v=>zo S T (restrict S env.bx ids) v
  | _,_=> .fail).leaf (V,us)) (hK:Goal P S w0 M0 s0 dq env a o.dst V us K):o.wp P a w K Q:=by
 split at hl
 · rename_i T v ht hx
   obtain ⟨hv,cR⟩:=aW h hx
   have fin: ∀ (b o':Nat) (ds:List Value) (V':Sy.V S.C),a.eval x= .pointer (some ⟨b,o',none⟩)→w.rangeAt b o' ds→ds.length=Ty.sz S T→V=V'→us= []→
    RV P S w (ay S w0 M0 s0 env.bx μ w) μ env.bx V' (ee T ds)→(∀ i ∈ aq S V',env.bx i≠none)→o.wp P a w K Q:=by
    rintro b o' ds V' he hr hlen rfl rfl cl cC
    refine wp_pure (V:=V) h (v:=ee T ds) ?_ hd cl cC hK
    unfold execOp
    simp only [ho,he]
    simp [run_load hP ht hr hlen]
   have BT: ∀ (b off:Nat) (vs:List (Sy.V S.C)) (cs:List Value),v= .ptr b off→vs.all (bG S)=true→w.rangeAt (μ b).b (μ b).o cs→aB P S w (ay S w0 M0 s0 env.bx μ w) μ env.bx vs cs→
    (∀ v ∈ vs, ∀ j ∈ ak S v,env.bx j≠none)→
    (match T with
     | .st u=>cond (Nat.ble (off+(S.F u).length) vs.length) (ax S (.agg u ((vs.drop off).take (S.F u).length)) []) .fail
     | _=>match vs[off]? with
      | some v=>ax S v []
      | none=> .fail).leaf (V,us)→o.wp P a w K Q:=by
    intro b off vs cs sL j9 js cl Dz hl1
    clear hl
    subst sL
    have ec:a.eval x=_:=hv
    have hlen:=aB.length P S cl
    have scalar:aZ T=false→Ty.sz S T=1→(∀ ds,ee T ds=ds.headD Go.undef)→(match vs[off]? with | some v=>ax S v [] | none=> .fail:Rt S).leaf (V,us)→o.wp P a w K Q:=by
     intro h1 h2 h3 n_
     split at n_
     · rename_i v hi
       obtain ⟨e1,e2⟩:=bg n_
       obtain ⟨c,hc,hr⟩:=aB.get P S off cl hi
       refine fin _ _ [c] v ec (fun j u hj=> ?_) (by rw [h2]; rfl) e1 e2 (by rw [h3]; exact jh hr) (fun j hj=>Dz v (List.mem_of_getElem? hi) j ?_)
       · cases j with
         | zero=>simp at hj; subst hj; exact js off c hc
         | succ j=>simp at hj
       · cases v <;> first | exact hj | exact (hr:False).elim
     · exact n_.elim
    cases T with
    | st u=>
     dsimp only at hl1
     cases hb:Nat.ble (off+(S.F u).length) vs.length with
     | false=>rw [hb] at hl1; exact hl1.elim
     | true=>
      rw [hb] at hl1
      obtain ⟨e1,e2⟩:=bg hl1
      have hle:=Nat.le_of_ble_eq_true hb
      refine fin _ _ ((cs.drop off).take (S.F u).length) _ ec (oF js off _) ?_ e1 e2 ?_ ?_
      · rw [List.length_take,List.length_drop]; show min _ _=(S.F u).length; omega
      · refine ⟨((cs.drop off).take (S.F u).length).toArray,rfl, ?_, ?_, ?_⟩
        · rw [List.length_take,List.length_drop]; omega
        · rw [List.all_eq_true] at j9 ⊢
          exact fun v hv=>j9 v (List.mem_of_mem_drop (List.mem_of_mem_take hv))
        · simpa using (cl.drop P S off).take P S (S.F u).length
      · intro j hj
        simp only [aq,List.mem_flatMap] at hj
        obtain ⟨v,hv,hj⟩:=hj
        exact Dz v (List.mem_of_mem_drop (List.mem_of_mem_take hv)) j hj
    | int k=>exact scalar rfl rfl (fun _=>rfl) hl1
    | bool=>exact scalar rfl rfl (fun _=>rfl) hl1
    | str=>exact scalar rfl rfl (fun _=>rfl) hl1
    | pt=>exact scalar rfl rfl (fun _=>rfl) hl1
    | sl e=>exact scalar rfl rfl (fun _=>rfl) hl1
   unfold zo at hl
   split at hl
   · rename_i b off
     split at hl
     · rename_i vs hb
       have hb:=dD hb
       obtain ⟨h1,h2,h3,cs,h4,h5⟩:=h.bw b _ hb
       exact BT b off vs cs rfl h1 h4 h5 (h.jB b vs (.inl hb)) hl
     · rename_i vs hb
       have hb:=dD hb
       obtain ⟨h1,cs,h4,h5⟩:=h.bw b _ hb
       exact BT b off vs cs rfl h1 h4.range h5 (h.jB b vs (.inr hb)) hl
     · exact hl.elim
   · rename_i u y
     obtain ⟨b,o',ds,he,cu,hlen,n,hr⟩:=hv
     split at hl
     · rename_i y' hc
       obtain ⟨rfl,rfl⟩:=dm hc
       obtain ⟨e1,e2⟩:=bg hl
       exact fin b o' ds _ he cu.range hlen e1 e2 (vD hr) (by simp [aq,ak])
     · exact hl.elim
   · rename_i c
     obtain ⟨kb,q,he,cu⟩:=hv
     split at hl
     · obtain ⟨e1,e2⟩:=bg hl
       refine fin kb q [.pointer (some ⟨(μ c).b,(μ c).o,none⟩)] _ he cu.range rfl e1 e2 rfl (fun j hj=>cR j (by simpa [aq,ak] using hj))
     · exact hl.elim
   · rename_i b i off
     have Cf: ∀ (e:Ty) (l:List (e.den S.C)),(env.bx b=some (.arr e l)∨env.bx b=some (.bn e l))→
      (∀ i x,l[i]? =some x→ ∃ ds,ds.length=Ty.sz S e∧w.rangeAt (μ b).b ((μ b).o+i*Ty.sz S e) ds∧ ∃ n,av S w (ay S w0 M0 s0 env.bx μ w) n e x ds)→
      (match partOf S e (gi S e l i) off T with
       | some y=>ax S (.d T y) []
       | none=> .fail:Rt S).leaf (V,us)→o.wp P a w K Q:=by
      intro e l hb hel hl1
      obtain ⟨g0,g1,he⟩:=hv.2 e l hb
      split at hl1
      · rename_i y hy
        obtain ⟨e1,e2⟩:=bg hl1
        obtain ⟨ds,d1,d2,n,d3⟩:=hel i.toNat _ (nW g0 (by omega))
        obtain ⟨m,hm⟩:=zJ P hP.tobY d3 hy
        exact fin _ _ _ _ he (oF d2 off (Ty.sz S T)) (hm.length S) e1 e2 (vD hm) (by simp [aq,ak])
      · exact hl1.elim
     split at hl
     · rename_i e l hb
       have hb:=dD hb
       exact Cf e l (.inl hb) (h.bw b _ hb).2.2.2.2 hl
     · rename_i e l hb
       have hb:=dD hb
       refine Cf e l (.inr hb) (fun i x hi=> ?_) hl
       obtain ⟨ds,d1,d2,d3⟩:=(h.bw b _ hb).2.2 i x hi
       exact ⟨ds,d1,d2.range,d3⟩
     · exact hl.elim
   · exact hl.elim
 · exact hl.elim
end
end Go.Sy
namespace Go.Sy
section
variable {P:Program} {S:aK} {af:Nat→Nat}
variable {w0:World} {M0 s0:St} {dq:List Deferred} {env:Env S.C} {a:Act} {w:World} {μ:Nat→Loc} {K:Act→World→Prop} {Q:Exit→Act→World→Prop} {o:Oper} {V:V S.C} {us:aA S.C}
theorem Ni {t u:Nat} (h:jJ S t=some u):S.ar t=none∧S.ty t=some (.st u):=by
 unfold jJ at h
 cases ha:S.ar t with
 | some p=>rw [ha] at h; cases h
 | none=>
  rw [ha] at h
  refine ⟨rfl, ?_⟩
  dsimp only at h
  split at h
  · rename_i u' hu; cases h; exact hu
  · cases h
theorem aL.eO (hP:aL P S af) {t u:Nat} (ht:jJ S t=some u) {f o':Nat} {T:Ty} (hf:S.eO u f=some (o',T)):
 ∃ fs fd,P.underlying t=some (.struct fs)∧fs[f]? =some fd∧fd.offset=o'∧S.ty fd.type=some T∧1≤Ty.sz S T∧o'+Ty.sz S T≤(S.F u).length:=by
 obtain ⟨ha,ht⟩:=Ni ht
 obtain ⟨_,_,h⟩:=hP.ty t _ ht
 rw [ha] at h
 obtain ⟨fs,hu,hfl⟩:=h
 obtain ⟨fd,h1,h2,h3,h4,h5⟩:=hfl f o' T hf
 exact ⟨fs,fd,hu,h1,h2,h3,h4,h5⟩
theorem MF (hP:aL P S af) {t u:Nat} (ht:jJ S t=some u) {f o':Nat} {T:Ty} (hf:S.eO u f=some (o',T)) (ad:Addr) (w:World):
 (Instr.fieldAt t (.pointer (some ad)) f).run P w= .ok (.pointer (some (ad.add o'))) w:=by
 obtain ⟨fs,fd,hu,h1,h2,h3,h4,_⟩:=hP.eO ht hf
 have hn: ¬ Ty.sz S T=0:=by omega
 simp [Instr.fieldAt,run_underlying hu,h1,Instr.sureAddr,fieldPlace,hP.size h3,hn,h2]
theorem IA (hP:aL P S af) (h:Inv P S w0 M0 s0 dq env a w μ) (hd: ∀ d,o.dst=some d→d<a.tmps.size) {t:TypeId} {x:Operand} {f:Nat} (ho:o.op= .fieldAddr t x f)
 (hl:(match aE S env.tm x with
  | some v=>xV S t f v
  | none=> .fail).leaf (V,us)) (hK:Goal P S w0 M0 s0 dq env a o.dst V us K):o.wp P a w K Q:=by
 split at hl
 · rename_i v hx
   obtain ⟨hv,cR⟩:=aW h hx
   have fin: ∀ (ad:Addr) (u jv:Nat) (T:Ty),a.eval x= .pointer (some ad)→jJ S t=some u→S.eO u f=some (jv,T)→us= []→
    RV P S w (ay S w0 M0 s0 env.bx μ w) μ env.bx V (.pointer (some (ad.add jv)))→(∀ i ∈ aq S V,env.bx i≠none)→o.wp P a w K Q:=by
    rintro ad u jv T he ht hf rfl cl cC
    refine wp_pure (V:=V) h ?_ hd cl cC hK
    unfold execOp
    simp only [ho,he]
    simp [MF hP ht hf]
   unfold xV at hl
   split at hl
   · rename_i b off
     split at hl
     · rename_i u ht
       split at hl
       · rename_i o' T hf
         obtain ⟨e1,e2⟩:=bg hl
         subst e1
         refine fin _ u o' T hv ht hf e2 ?_ (fun i hi=>cR i hi)
         show Value.pointer _=_
         rw [Addr.add_mid,Nat.add_assoc]
       · exact hl.elim
     · exact hl.elim
   · rename_i u y
     split at hl
     · rename_i u' ht
       cases hb:Nat.beq u u' with
       | false=>rw [hb] at hl; exact hl.elim
       | true=>
       rw [hb] at hl
       obtain rfl:=Nat.eq_of_beq_eq_true hb
       dsimp only [cond] at hl
       split at hl
       · rename_i o' T hf
         split at hl
         · rename_i z hz
           obtain ⟨e1,e2⟩:=bg hl
           subst e1
           obtain ⟨b,jv,ds,he,cu,hlen,n,hr⟩:=hv
           obtain ⟨m,hm⟩:=zJ P hP.tobY hr hz
           exact fin _ u o' T he ht hf e2 ⟨b,_,_,by rw [Addr.add_mid],cu.part o' _,hm.length S,m,hm⟩ (by simp [aq,ak])
         · exact hl.elim
       · exact hl.elim
     · exact hl.elim
   · rename_i b i off
     split at hl
     · rename_i u ht
       split at hl
       · rename_i o' T hf
         obtain ⟨e1,e2⟩:=bg hl
         subst e1
         obtain ⟨⟨⟨ad,he⟩,ct⟩,dV⟩:=hv
         refine fin _ u o' T he ht hf e2 ⟨⟨⟨_,rfl⟩,fun u' l' q' hb'=> ?_⟩,fun e' l' hb'=> ?_⟩ (fun i hi=>cR i hi)
         · obtain ⟨yf,yg,he'⟩:=ct u' l' q' hb'
           refine ⟨yf,yg, ?_⟩
           rw [he'] at he
           cases he
           rw [Addr.add_mid,Nat.add_assoc]
         obtain ⟨yf,yg,he'⟩:=dV e' l' hb'
         refine ⟨yf,yg, ?_⟩
         rw [he'] at he
         cases he
         rw [Addr.add_mid,Nat.add_assoc]
       · exact hl.elim
     · exact hl.elim
   · rename_i b c
     obtain ⟨kb,q,he,cu,cB,fh⟩:=hv
     split at hl
     · rename_i u ht
       split at hl
       · rename_i o' T hf
         split at hl
         · obtain ⟨e1,e2⟩:=bg hl
           subst e1
           exact fin _ u 0 T he ht hf e2 ⟨kb,q,rfl,cu⟩ (fun i hi=>cR i (by simp [aq,ak] at hi ⊢; exact .inr hi))
         · rename_i jv
           obtain ⟨e1,e2⟩:=bg hl
           subst e1
           refine fin _ u (jv+1) T he ht hf e2 ?_ (fun i hi=>cR i (by simp [aq,ak] at hi ⊢; exact .inl hi))
           show Value.pointer _=_
           rw [Addr.add_mid,cB,fh,Nat.add_assoc,Nat.add_comm 1 jv]
       · exact hl.elim
     · exact hl.elim
   · exact hl.elim
 · exact hl.elim
theorem l_ (hP:aL P S af) {t:Nat} {T:Ty} (ht:S.ty t=some T) {cs:Array Value} {off:Nat} (hle:off+Ty.sz S T≤cs.size) (w:World):
 (part t cs off).run P w= .ok (ee T ((cs.toList.drop off).take (Ty.sz S T))) w:=by
 have one:aZ T=false→Ty.sz S T=1→(∀ ds,ee T ds=ds.headD Go.undef)→(part t cs off).run P w= .ok (ee T ((cs.toList.drop off).take (Ty.sz S T))) w:=by
  intro h1 h2 h3
  have hag:=hP.agg ht w
  rw [h1] at hag
  rw [h2] at hle
  have hlt:off<cs.size:=by omega
  unfold part
  simp [hag,hlt]
  rw [h3,h2,List.drop_eq_getElem_cons (by simpa using hlt)]
  simp
 cases T with
 | st u=>
  have hag:=hP.agg ht w
  have hsz:=hP.size ht w
  unfold part
  simp only [Sem.run_bind,hag,hsz,aZ,Result.andThen_ok,if_true,Sem.run_pure]
  congr 2
  show _=((cs.toList.drop off).take (Ty.sz S (.st u))).toArray
  apply Array.ext'
  simp [Array.toList_extract,List.extract_eq_take_drop]
 | int k=>exact one rfl rfl (fun _=>rfl)
 | bool=>exact one rfl rfl (fun _=>rfl)
 | str=>exact one rfl rfl (fun _=>rfl)
 | pt=>exact one rfl rfl (fun _=>rfl)
 | sl e=>exact one rfl rfl (fun _=>rfl)
theorem IB (hP:aL P S af) (h:Inv P S w0 M0 s0 dq env a w μ) (hd: ∀ d,o.dst=some d→d<a.tmps.size) {t:TypeId} {x:Operand} {f:Nat} (ho:o.op= .field t x f)
 (hl:(match jJ S t,aE S env.tm x with
  | some u,some (.d (.st u') y)=>cond (Nat.beq u u') (match S.eO u' f with
   | some (o,w)=>match partOf S (.st u') y o w with
    | some z=>ax S (.d w z) []
    | none=> .fail
   | none=> .fail) .fail
  | some u,some (.agg u' vs)=>cond (Nat.beq u u'&&vs.length == (S.F u).length) (match S.eO u f with
   | some (o, .st w)=>ax S (.agg w ((vs.drop o).take (S.F w).length)) []
   | some (o,_)=>match vs[o]? with
    | some v=>ax S v []
    | none=> .fail
   | none=> .fail) .fail
  | _,_=> .fail).leaf (V,us)) (hK:Goal P S w0 M0 s0 dq env a o.dst V us K):o.wp P a w K Q:=by
 have fin: ∀ (u jv:Nat) (T:Ty) (cs:Array Value),a.eval x= .agg cs→cs.size=(S.F u).length→jJ S t=some u→S.eO u f=some (jv,T)→us= []→
  RV P S w (ay S w0 M0 s0 env.bx μ w) μ env.bx V (ee T ((cs.toList.drop jv).take (Ty.sz S T)))→(∀ i ∈ aq S V,env.bx i≠none)→o.wp P a w K Q:=by
  rintro u jv T cs he hsz ht hf rfl cl cC
  obtain ⟨fs,fd,hu,h1,h2,h3,h4,h5⟩:=hP.eO ht hf
  refine wp_pure (V:=V) h ?_ hd cl cC hK
  unfold execOp
  simp only [ho,he]
  simp [Instr.field,run_underlying hu,h1,asAgg,h2,l_ hP h3 (cs:=cs) (off:=jv) (by omega)]
 split at hl
 · rename_i u u' y ht hx
   obtain ⟨hv,cR⟩:=aW h hx
   cases hb:Nat.beq u u' with
   | false=>rw [hb] at hl; exact hl.elim
   | true=>
    rw [hb] at hl
    obtain rfl:=Nat.eq_of_beq_eq_true hb
    dsimp only [cond] at hl
    split at hl
    · rename_i o' T hf
      split at hl
      · rename_i z hz
        obtain ⟨e1,e2⟩:=bg hl
        subst e1
        obtain ⟨ha,n,hr⟩:=hv
        have : ∃ cs,a.eval x= .agg cs:=by
         cases e:a.eval x <;> rw [e] at ha <;> first | exact ⟨_,rfl⟩ | (simp [Go.Sy.isAgg,aZ] at ha)
        obtain ⟨cs,he⟩:=this
        rw [he] at hr
        obtain ⟨m,hm⟩:=zJ P hP.tobY hr hz
        exact fin u o' T cs he (by have :=hr.length S; simpa [Value.cells,Ty.sz] using this) ht hf e2 (vD hm) (by simp [aq,ak])
      · exact hl.elim
    · exact hl.elim
 · rename_i u u' vs ht hx
   obtain ⟨⟨cs,he,hlen,j9,hvs⟩,cR⟩:=aW h hx
   cases hb:(Nat.beq u u'&&vs.length == (S.F u).length) with
   | false=>rw [hb] at hl; exact hl.elim
   | true=>
    rw [hb] at hl
    rw [Bool.and_eq_true] at hb
    obtain rfl:=Nat.eq_of_beq_eq_true hb.1
    have hcl:=aB.length P S hvs
    have hsz:cs.size=(S.F u).length:=by rw [← hlen, ← hcl]; simp
    dsimp only [cond] at hl
    split at hl
    · rename_i o' o7 hf
      obtain ⟨e1,e2⟩:=bg hl
      subst e1
      obtain ⟨fs,fd,hu,h1,h2,h3,h4,h5⟩:=hP.eO ht hf
      refine fin u o' _ cs he hsz ht hf e2 ⟨_,rfl, ?_, ?_, ?_⟩ (fun i hi=> ?_)
      · rw [List.length_take,List.length_drop]
        have :Ty.sz S (.st o7)=(S.F o7).length:=rfl
        omega
      · rw [List.all_eq_true] at j9 ⊢
        exact fun v hv=>j9 v (List.mem_of_mem_drop (List.mem_of_mem_take hv))
      · have :=(hvs.drop P S o').take P S (S.F o7).length
        simpa [Ty.sz] using this
      · simp only [aq,List.mem_flatMap] at hi
        obtain ⟨v,hv,hi⟩:=hi
        exact cR i (by simp only [aq,List.mem_flatMap]; exact ⟨v,List.mem_of_mem_drop (List.mem_of_mem_take hv),hi⟩)
    · rename_i o' T hne hf
      split at hl
      · rename_i v hi
        obtain ⟨e1,e2⟩:=bg hl
        subst e1
        obtain ⟨c,hc,hr⟩:=aB.get P S o' hvs hi
        have hT:aZ T=false:=by
         cases T with
         | st o7=>exact absurd rfl (hne o7)
         | _=>rfl
        have hmk:ee T ((cs.toList.drop o').take (Ty.sz S T))=c:=by
         have h1:Ty.sz S T=1:=by cases T <;> first | rfl | simp [aZ] at hT
         have hlt:=(List.getElem?_eq_some_iff.1 hc).1
         have j4:=(List.getElem?_eq_some_iff.1 hc).2
         rw [h1,List.drop_eq_getElem_cons hlt]
         cases T <;> first | (simp [ee,j4]; done) | simp [aZ] at hT
        refine fin u o' T cs he hsz ht hf e2 (by rw [hmk]; exact jh hr) (fun i hi'=> ?_)
        refine cR i ?_
        simp only [aq,List.mem_flatMap]
        refine ⟨V,List.mem_of_getElem? hi, ?_⟩
        cases V <;> first | exact hi' | exact (hr:False).elim
      · exact hl.elim
    · exact hl.elim
 · exact hl.elim
end
end Go.Sy
