import Derived.Test.YtffkiommagljeaaGreatDoorE3
set_option linter.unusedVariables false
set_option linter.unusedSimpArgs false
set_option linter.unusedSectionVars false
namespace Go.Ax
open Go
variable [Inhabited Gl0]
def get:List AV->Nat->AV
 | [],_=>.junk
 | a::_,0=>a
 | _::l,n+1=>get l n
def set:List AV->Nat->AV->List AV
 | [],_,_=>[]
 | _::l,0,v=>v::l
 | a::l,n+1,v=>a::set l n v
def setL:List AV->Nat->List AV->List AV
 | l,_,[]=>l
 | l,o,v::vs=>setL (set l o v) (o+1) vs
def takeL (l:List AV):Nat->Nat->List AV
 | _,0=>[]
 | o,n+1=>get l o::takeL l (o+1) n
def tab (c:Nat->AV):Nat->Nat->List AV
 | _,0=>[]
 | o,n+1=>c o::tab c (o+1) n
def sAV (v:Value):AV:=if scalar v then .s v else .junk
def toAV:Value->AV
 | .agg cs=>.agg (cs.toList.map sAV)
 | v=>sAV v
def ev (t:Nat->AV):Operand->AV
 | .tmp i=>t i
 | .const v=>toAV v
 | .global _=>.junk
 | .func f=>.fn (.func f) [] []
def one:AV->Bool
 | .agg _ | .tup _ | .junk=>false
 | _=>true
def allOne:List AV->Bool
 | []=>true
 | a::l=>one a&&allOne l
def cellsOf:AV->Option (List AV)
 | .agg cs=>if allOne cs then some cs else none
 | a=>if one a then some [a] else none
inductive Hint where
 | ok
 | b (x:Bool)
 | row (ty:TypeId) (sz:Nat)
 | res (r:AV) (M:List Blk)
def chk (h:Option Hint) (b:Bool):Option (List Bool) :=
 match h with
 | some _=>some [b]
 | none=>match b with | true=>some [] | false=>none
structure Eff where
 r:AV
 wr:List (Nat×Blk)
 kl:List Nat
 ob:List Bool
def pur (r:AV):Option Eff:=some ⟨r,[],[],[]⟩
def purO (r:AV) (ob:List Bool):Option Eff:=some ⟨r,[],[],ob⟩
def agree (y x:Bool):Bool:=match y with | true=>x | false=>!x
def boolR (h:Option Hint) (x:Bool):Option Eff :=
 match h with
 | some (.b y)=>purO (.s (.bool y)) [agree y x]
 | _=>pur (.s (.bool x))
def isAgg (P:Program) (t:TypeId):Bool:=match P.underlying t with | some (.struct _) | some (.array _ _)=>true | _=>false
def sizeT (P:Program) (t:TypeId):Option Nat:=(P.info? t).map (·.size)
def len {α:Type}:List α->Nat
 | []=>0
 | _::l=>len l+1
def rdBlk (h:Option Hint) (B:Blk) (k sz o n:Nat):Option (List AV×List Bool) :=
 match B with
 | .box _ cs=>match k with
   | 0=>if o+n<=len cs then some (takeL cs o n,[]) else none
   | _+1=>none
 | .lst _ sz' _ _ cs=>if sz'==sz&&Nat.ble (k*sz+o+n) (len cs) then some (takeL cs (k*sz+o) n,[]) else none
 | .row _ sz' m _ c=>if sz'==sz&&Nat.ble (o+n) sz then (match chk h (decide (k<m)) with | some ob=>some (tab (c k) o n,ob) | none=>none) else none
 | .trow _ sz' _ _ _ op _=>(match op with
   | (k0,as)::_=>if sz'==sz&&Nat.ble (o+n) sz then (match chk h (decide (k=k0)) with | some ob=>some (takeL as o n,ob) | none=>none) else none
   | []=>none)
 | _=>none
def rdPtr (h:Option Hint) (rd:Nat->Blk) (a:AV) (n:Nat):Option (List AV×List Bool) :=
 match a with
 | .ptr i k sz o=>rdBlk h (rd i) k sz o n
 | .ip _ m c=>if Nat.ble n m then some (tab c 0 n,[]) else none
 | _=>none
def aLoad (P:Program) (h:Option Hint) (rd:Nat->Blk) (t:TypeId) (a:AV):Option Eff :=
 match isAgg P t with
 | true=>match sizeT P t with
   | some n=>match rdPtr h rd a n with | some (cs,ob)=>purO (.agg cs) ob | none=>none
   | none=>none
 | false=>match rdPtr h rd a 1 with
   | some (c::_,ob)=>(match h,c with
     | some (.b y),.s (.bool x)=>purO (.s (.bool y)) (agree y x::ob)
     | _,c=>purO c ob)
   | _=>none
def wrRow (c:Nat->Nat->AV) (k o:Nat) (l:List AV) (k' j:Nat):AV :=
 if k'=k/\o<=j/\j<o+len l then get l (j - o) else c k' j
def wrBlk (h:Option Hint) (B:Blk) (k sz o:Nat) (l:List AV):Option (Blk×List Bool) :=
 match B with
 | .box ty cs=>match k with
   | 0=>if Nat.ble (o+len l) (len cs) then some (.box ty (setL cs o l),[]) else none
   | _+1=>none
 | .lst ty sz' n cap cs=>if sz'==sz&&Nat.ble (k*sz+o+len l) (len cs) then some (.lst ty sz' n cap (setL cs (k*sz+o) l),[]) else none
 | .row ty sz' m cap c=>if sz'==sz&&Nat.ble (o+len l) sz&&noRefL l then (match chk h (decide (k<m)) with | some ob=>some (.row ty sz' m cap (wrRow c k o l),ob) | none=>none) else none
 | .trow ty sz' m cap c op zs=>(match op with
   | (k0,as)::r=>if sz'==sz&&Nat.ble (o+len l) sz then (match chk h (decide (k=k0)) with | some ob=>some (.trow ty sz' m cap c ((k0,setL as o l)::r) zs,ob) | none=>none) else none
   | []=>none)
 | _=>none
def aStore (P:Program) (h:Option Hint) (rd:Nat->Blk) (t:TypeId) (a x:AV):Option Eff :=
 match a,cellsOf x,sizeT P t with
 | .ptr i k sz o,some l,some n =>
   if n==len l then (match wrBlk h (rd i) k sz o l with | some (B,ob)=>some ⟨.junk,[(i,B)],[],ob⟩ | none=>none) else none
 | _,_,_=>none
def zeroL (P:Program) (t:TypeId):Option (List AV):=match P.info? t with | some i=>(match i.zero with | some v=>cellsOf (toAV v) | none=>none) | none=>none
def fillA (place:Nat->Option (Nat×Nat)):List AV->List (Nat×AV)->Option (List AV)
 | cells,[]=>some cells
 | cells,(i,v)::r=>match place i,cellsOf v with
   | some (off,size),some l=>if size==len l&&Nat.ble (off+len l) (len cells) then fillA place (setL cells off l) r else none
   | _,_=>none
def placesF (P:Program):List Field->Option (List (Nat×Nat))
 | []=>some []
 | f::r=>match sizeT P f.type,placesF P r with
   | some n,some l=>some ((f.offset,n)::l)
   | _,_=>none
def aBuild (P:Program) (t:TypeId) (parts:List (Nat×AV)):Option Eff :=
 match P.underlying t,zeroL P t with
 | some (.struct fs),some z=>(match placesF P fs.toList with
   | some pl=>(match fillA (fun i=>pl[i]?) z parts with | some l=>pur (.agg l) | none=>none)
   | none=>none)
 | some (.array _ e),some z=>(match sizeT P e with
   | some n=>(match fillA (fun i=>some (i*n,n)) z parts with | some l=>pur (.agg l) | none=>none)
   | none=>none)
 | _,_=>none
def rep (z:List AV):Nat->List AV
 | 0=>[]
 | n+1=>z++rep z n
def aBuildSlice (P:Program) (nid:Nat) (t:TypeId) (n:Nat) (parts:List (Nat×AV)):Option Eff :=
 match P.underlying t with
 | some (.slice e)=>(match sizeT P e,zeroL P e with
   | some sz,some z =>
     if len z==sz&&Nat.ble 1 sz&&Nat.ble (n*sz) 16777216 then
      (match fillA (fun i=>some (i*sz,sz)) (rep z n) parts with
       | some l=>some ⟨.own nid sz 0 n,[(nid,.lst e sz n (some n) l)],[],[]⟩
       | none=>none)
     else none
   | _,_=>none)
 | _=>none
def sbin (P:Program) (t:TypeId) (op:BinOp) (x y:Value):Option Value :=
 match op,x,y with
 | .add,.int k a,.int k' b=>if k=k' then some (.int k (k.wrap (a+b))) else none
 | .sub,.int k a,.int k' b=>if k=k' then some (.int k (k.wrap (a - b))) else none
 | .mul,.int k a,.int k' b=>if k=k' then some (.int k (k.wrap (a*b))) else none
 | .eql,.int k a,.int k' b=>if k=k' then some (.bool (a==b)) else none
 | .neq,.int k a,.int k' b=>if k=k' then some (.bool (a != b)) else none
 | .lss,.int k a,.int k' b=>if k=k' then some (.bool (decide (a<b))) else none
 | .leq,.int k a,.int k' b=>if k=k' then some (.bool (decide (a<=b))) else none
 | .gtr,.int k a,.int k' b=>if k=k' then some (.bool (decide (b<a))) else none
 | .geq,.int k a,.int k' b=>if k=k' then some (.bool (decide (b<=a))) else none
 | .eql,.string a,.string b=>some (.bool (a.data.toList==b.data.toList))
 | .neq,.string a,.string b=>some (.bool (!(a.data.toList==b.data.toList)))
 | .lss,.string a,.string b=>some (.bool (Op.bytesLess a.data.toList b.data.toList))
 | .leq,.string a,.string b=>some (.bool (Op.bytesLess a.data.toList b.data.toList||a.data.toList==b.data.toList))
 | .gtr,.string a,.string b=>some (.bool (!(Op.bytesLess a.data.toList b.data.toList||a.data.toList==b.data.toList)))
 | .geq,.string a,.string b=>some (.bool (!Op.bytesLess a.data.toList b.data.toList))
 | .eql,.bool a,.bool b=>(match P.underlying t with | some .bool=>some (.bool (a==b)) | _=>none)
 | .neq,.bool a,.bool b=>(match P.underlying t with | some .bool=>some (.bool (!(a==b))) | _=>none)
 | _,_,_=>none
def eqCells (P:Program):List Field->List AV->List AV->Option Bool
 | [],_,_=>some true
 | f::r,xs,ys =>
   if f.name = "_" then eqCells P r xs ys else
   match P.underlying f.type,get xs f.offset,get ys f.offset with
   | some (.int _),.s (.int k a),.s (.int k' b)=>if k=k' then (match eqCells P r xs ys with | some q=>some (a==b&&q) | none=>none) else none
   | some .string,.s (.string a),.s (.string b)=>(match eqCells P r xs ys with | some q=>some (a.data.toList==b.data.toList&&q) | none=>none)
   | some .bool,.s (.bool a),.s (.bool b)=>(match eqCells P r xs ys with | some q=>some (a==b&&q) | none=>none)
   | _,_,_=>none
def aBin (P:Program) (h:Option Hint) (op:BinOp) (t:TypeId) (x y:AV):Option Eff :=
 match x,y with
 | .s a,.s b=>(match sbin P t op a b with
   | some (.bool r)=>boolR h r
   | some r=>pur (.s r)
   | none=>none)
 | .agg xs,.agg ys=>(match P.underlying t with
   | some (.struct fs)=>if P.stoodInHeld t||P.eqGuardType P.depth t then none else
     (match op,eqCells P fs.toList xs ys with
      | .eql,some q=>boolR h q
      | .neq,some q=>boolR h (!q)
      | _,_=>none)
   | _=>none)
 | _,_=>none
def aConv (P:Program) (dst:TypeId) (src:TypeId) (x:AV):Option Eff :=
 match P.underlying src,P.underlying dst,x with
 | some (.int _),some (.int k),.s (.int _ n)=>pur (.s (.int k (k.wrap n)))
 | some .string,some .string,.s (.string s)=>pur (.s (.string s))
 | _,_,_=>none
def aField (P:Program) (s:TypeId) (x:AV) (f:Nat):Option Eff :=
 match P.underlying s,x with
 | some (.struct fs),.agg cs=>(match fs[f]? with
   | some fd=>if (P.underlying fd.type).isNone then none else (match isAgg P fd.type,sizeT P fd.type with
     | true,some n=>if Nat.ble (fd.offset+n) (len cs) then pur (.agg (takeL cs fd.offset n)) else none
     | false,_=>if Nat.ble (fd.offset+1) (len cs) then pur (get cs fd.offset) else none
     | _,_=>none)
   | none=>none)
 | _,_=>none
def aFieldAddr (P:Program) (s:TypeId) (x:AV) (f:Nat):Option Eff :=
 match P.underlying s with
 | some (.struct fs)=>(match fs[f]? with
   | some fd=>(match sizeT P fd.type with
     | some (_+1)=>(match x with
       | .ptr i k sz o=>pur (.ptr i k sz (o+fd.offset))
       | .ip b m c=>if Nat.ble fd.offset m then pur (.ip b (m - fd.offset) (fun j=>c (fd.offset+j))) else none
       | _=>none)
     | _=>none)
   | none=>none)
 | _=>none
def aIndexAddr (P:Program) (h:Option Hint) (t:TypeId) (x i:AV):Option Eff :=
 match P.underlying t,i with
 | some (.slice e),.s (.int _ q)=>(match sizeT P e with
   | some sz=>(match x with
     | .sl b sz' n c=>if sz'==sz then (match chk h (decide (0<=q)&&decide (q<(n:Int))) with | some ob=>purO (.ip b sz (c q.toNat)) ob | none=>none) else none
     | .own a sz' lo n=>if sz'==sz then (match chk h (decide (0<=q)&&decide (q<(n:Int))) with | some ob=>purO (.ptr a (lo+q.toNat) sz 0) ob | none=>none) else none
     | _=>none)
   | none=>none)
 | some (.array n e),.s (.int _ q)=>(match sizeT P e with
   | some sz=>(match x with
     | .ptr a k sz' o=>(match chk h (decide (0<=q)&&decide (q<(n:Int))) with | some ob=>purO (.ptr a k sz' (o+q.toNat*sz)) ob | none=>none)
     | .ip b m c=>if Nat.ble (n*sz) m then (match chk h (decide (0<=q)&&decide (q<(n:Int))) with | some ob=>purO (.ip b sz (fun j=>c (q.toNat*sz+j))) ob | none=>none) else none
     | _=>none)
   | none=>none)
 | _,_=>none
def bnd (d:Nat):Option AV->Option Int
 | none=>some d
 | some (.s (.int _ q))=>some q
 | _=>none
def aSlice (P:Program) (h:Option Hint) (t:TypeId) (x:AV) (lo hi mx:Option AV):Option Eff :=
 match mx,P.underlying t,x with
 | none,some .string,.s (.string s)=>(match bnd 0 lo,bnd s.size hi with
   | some l,some u=>(match chk h (decide (0<=l)&&decide (l<=u)&&decide (u<=(s.size:Int))) with
     | some ob=>purO (.s (.string (s.extract l.toNat u.toNat))) ob | none=>none)
   | _,_=>none)
 | none,some (.slice e),.sl b sz n c=>(match sizeT P e,bnd 0 lo,bnd n hi with
   | some sz',some l,some u=>if sz'==sz then (match chk h (decide (0<=l)&&decide (l<=u)&&decide (u<=(n:Int))) with
     | some ob=>purO (.sl b sz (u.toNat - l.toNat) (fun k=>c (l.toNat+k))) ob | none=>none) else none
   | _,_,_=>none)
 | none,some (.slice e),.own i sz z n=>(match sizeT P e,bnd 0 lo,bnd n hi with
   | some sz',some l,some u=>if sz'==sz then (match chk h (decide (0<=l)&&decide (l<=u)&&decide (u<=(n:Int))) with
     | some ob=>purO (.own i sz (z+l.toNat) (u.toNat - l.toNat)) ob | none=>none) else none
   | _,_,_=>none)
 | _,_,_=>none
def aLen (P:Program) (t:TypeId) (x:AV):Option Eff :=
 match P.underlying t,x with
 | some .string,.s (.string s)=>pur (.s (.int .i64 (s.size:Nat)))
 | some (.slice _),.s (.slice none 0 0)=>pur (.s (.int .i64 0))
 | some (.slice _),.sl _ _ n _=>pur (.s (.int .i64 (n:Nat)))
 | some (.slice _),.own _ _ _ n=>pur (.s (.int .i64 (n:Nat)))
 | some (.array n _),_=>pur (.s (.int .i64 (n:Nat)))
 | _,_=>none
def srcOf (rd:Nat->Blk) (sz:Nat) (x:AV):Option (Nat×(Option (List AV))×(Nat->Nat->AV)) :=
 match x with
 | .s (.slice none 0 0)=>some (0,some [],fun _ _=>.junk)
 | .sl _ sz' n c=>if sz'==sz then some (n,none,c) else none
 | .own i sz' lo n=>if sz'==sz then (match rd i with
   | .lst _ s2 m _ cs=>if s2==sz&&Nat.ble (lo+n) m then some (n,some (takeL cs (lo*sz) (n*sz)),fun k j=>get cs ((lo+k)*sz+j)) else none
   | .row _ s2 _ _ c=>if s2==sz then some (n,none,fun k=>c (lo+k)) else none
   | _=>none) else none
 | _=>none
def appRow (n:Nat) (c d:Nat->Nat->AV) (k j:Nat):AV:=if k<n then c k j else d (k - n) j
def appBlk (B:Blk) (n sz:Nat) (src:Nat×Option (List AV)×(Nat->Nat->AV)):Option Blk :=
 match B,src with
 | .lst ty _ _ _ cs,(m,some l,_)=>if allOne l then some (.lst ty sz (n+m) none (cs++l)) else none
 | .lst ty _ _ _ cs,(m,none,d)=>if noRefL cs then some (.row ty sz (n+m) none (appRow n (fun k j=>get cs (k*sz+j)) d)) else none
 | .row ty _ _ _ c,(m,some l,_)=>if noRefL l&&allOne l then some (.row ty sz (n+m) none (appRow n c (fun k j=>get l (k*sz+j)))) else none
 | .row ty _ _ _ c,(m,none,d)=>some (.row ty sz (n+m) none (appRow n c d))
 | _,_=>none
def aAppend (P:Program) (h:Option Hint) (rd:Nat->Blk) (nid:Nat) (t:TypeId) (s x:AV):Option Eff :=
 match P.underlying t with
 | some (.slice e)=>(match P.info? e,zeroL P e with
   | some i,some z=>(match srcOf rd i.size x with
     | some src =>
       if Nat.ble 1 i.size&&len z==i.size then
       (match s with
        | .s (.slice none 0 0)=>(match chk h (decide (src.1<=maxLen)&&decide (src.1*i.bytes<=140737488355328)),appBlk (.lst e i.size 0 none []) 0 i.size src with
          | some ob,some B=>some ⟨.own nid i.size 0 src.1,[(nid,B)],[],ob⟩
          | _,_=>none)
        | .own a sz 0 n=>if sz==i.size then (match rd a with
          | .lst ty s2 m _ cs=>if ty==e&&s2==sz&&m==n then
            (match chk h (decide (n+src.1<=maxLen)&&decide ((n+src.1)*i.bytes<=140737488355328)),appBlk (.lst ty s2 m none cs) n sz src with
             | some ob,some B=>some ⟨.own a sz 0 (n+src.1),[(a,B)],[a],ob⟩
             | _,_=>none) else none
          | .row ty s2 m _ c=>if ty==e&&s2==sz then
            (match chk h (decide (m=n)&&decide (n+src.1<=maxLen)&&decide ((n+src.1)*i.bytes<=140737488355328)),appBlk (.row ty s2 m none c) n sz src with
             | some ob,some B=>some ⟨.own a sz 0 (n+src.1),[(a,B)],[a],ob⟩
             | _,_=>none) else none
          | _=>none) else none
        | _=>none)
       else none
     | none=>none)
   | _,_=>none)
 | _=>none
def mm2 (isMax:Bool):Value->Value->Option Value
 | .int k x,.int _ y=>some (.int k (match isMax with | true=>(if y > x then y else x) | false=>(if y<x then y else x)))
 | .string x,.string y=>some (.string (match isMax with | true=>(if (!Op.bytesLess x.data.toList y.data.toList)=true then x else y) | false=>(if (Op.bytesLess x.data.toList y.data.toList||x.data.toList==y.data.toList)=true then x else y)))
 | _,_=>none
def mmL (isMax:Bool):Value->List AV->Option Value
 | v,[]=>some v
 | v,.s u::r=>(match mm2 isMax v u with | some x=>mmL isMax x r | none=>none)
 | _,_=>none
def aMinMax (isMax:Bool):List AV->Option Eff
 | .s v::r=>(match mmL isMax v r with | some x=>pur (.s x) | none=>none)
 | _=>none
def aMove (h:Option Hint) (nid:Nat) (r:AV):Option Eff :=
 match h,r with
 | some (.row ty sz),.s (.slice none 0 0)=>some ⟨.own nid sz 0 0,[(nid,.row ty sz 0 none (fun _ _=>.junk))],[],[]⟩
 | _,r=>pur r
def aop (P:Program) (h:Option Hint) (rd:Nat->Blk) (nid:Nat) (t:Nat->AV) (op:Op):Option Eff :=
 match op with
 | .move x | .assign x=>aMove h nid (ev t x)
 | .pick c a b=>(match ev t c with
   | .s (.bool true)=>pur (ev t a)
   | .s (.bool false)=>pur (ev t b)
   | _=>none)
 | .alloc ty=>(match zeroL P ty with | some z=>some ⟨.ptr nid 0 0 0,[(nid,.box ty z)],[],[]⟩ | none=>none)
 | .box ty x=>(match cellsOf (ev t x) with | some l=>some ⟨.ptr nid 0 0 0,[(nid,.box ty l)],[],[]⟩ | none=>none)
 | .build ty parts=>aBuild P ty (parts.toList.map fun p=>(p.1,ev t p.2))
 | .buildSlice ty n parts=>aBuildSlice P nid ty n (parts.toList.map fun p=>(p.1,ev t p.2))
 | .load ty a=>(match P.underlying ty with | some _=>aLoad P h rd ty (ev t a) | none=>none)
 | .store ty a x=>aStore P h rd ty (ev t a) (ev t x)
 | .nilCheck x=>(match ev t x with
   | .ptr i k sz o=>pur (.ptr i k sz o)
   | .ip b m c=>pur (.ip b m c)
   | .fn (.func f) a b=>pur (.fn (.func f) a b)
   | _=>none)
 | .binOp op ty x y _=>aBin P h op ty (ev t x) (ev t y)
 | .unOp .not _ x=>(match ev t x with | .s (.bool b)=>boolR h (!b) | _=>none)
 | .convert src dst x=>aConv P dst src (ev t x)
 | .makeInterface ty x=>(match P.underlying ty with
   | some (.interface _)=>none
   | some _=>pur (.ifc ty (ev t x))
   | none=>none)
 | .makeFunc fn first cap=>pur (.fn fn (first.toList.map (ev t)) (cap.toList.map (ev t)))
 | .slice ty x lo hi mx=>aSlice P h ty (ev t x) (lo.map (ev t)) (hi.map (ev t)) (mx.map (ev t))
 | .fieldAddr s x f=>aFieldAddr P s (ev t x) f
 | .field s x f=>aField P s (ev t x) f
 | .indexAddr ty x i=>aIndexAddr P h ty (ev t x) (ev t i)
 | .extract x i=>(match ev t x with | .tup l=>if Nat.ble (i+1) (len l) then pur (get l i) else none | _=>none)
 | .call { callee:=.builtin .len,args,argTypes }=>(match argTypes.toList,args.toList with
   | [ty],[x]=>aLen P ty (ev t x)
   | _,_=>none)
 | .call { callee:=.builtin .append,args,argTypes }=>(match argTypes.toList,args.toList with
   | [t1,t2],[s,x]=>if t1==t2 then aAppend P h rd nid t1 (ev t s) (ev t x) else none
   | _,_=>none)
 | .call { callee:=.builtin .max,args,.. }=>aMinMax true (args.toList.map (ev t))
 | .call { callee:=.builtin .min,args,.. }=>aMinMax false (args.toList.map (ev t))
 | _=>none
def applyW:List (Nat×Blk)->List Blk->List Blk
 | [],M=>M
 | (i,B)::r,M=>applyW r (putM M i B)
end Go.Ax
