import Derived.Test.YtckklclehofddaaGreatDoorE12
import Derived.Test.YtckklclehofddaaGreatDoorW3
import Derived.Test.YtckklclehofddaaGreatDoorW4
set_option linter.unusedVariables false
set_option linter.unusedSimpArgs false
set_option linter.unusedSectionVars false
namespace Go.Proofs.YtckklclehofddaaGreatDoor.P
open Go.Ax
set_option maxRecDepth 1000000
def encI (x:Int):List AV:=[.y (.int .u64 x)]
def encU (b:Bool) (l:List Int):AV:=.ys b 1 l.length (cellsOf' encI l)
def mvOk (x:Producer) (to:List Int):Bool:=x.here&&(decide (1<to.length)&&(decide (x.offset<=(to.length:Int) - 2)&&decide (to.getD x.offset.toNat default<to.getD (x.offset.toNat+1) default)))
def mvP (to:List Int) (x:Producer):Producer:=if mvOk x to then ⟨x.id,x.seq,true,to.getD x.offset.toNat default⟩ else ⟨x.id,x.seq,false,0⟩
def moveL (l:List Producer) (to:List Int):List Producer:=l.map (mvP to)
def mvM (l:List Producer) (to:List Int) (k:Nat):List Blk:=[.row 39 4 (l.take k).length none (cellsOf' encP (moveL (l.take k) to))]
def mvT (b1 b2:Bool) (l:List Producer) (to:List Int) (k:Nat):List AV:=mkT 64 [(1,encU b2 to),(5,.own 0 4 0 (l.take k).length),(9,encPs b1 l),(10,.y (.int .i64 l.length)),(11,.y (.int .i64 k))]
def mvS (b2:Bool) (l:List Producer) (to:List Int) (_:Unit):Exit×List AV×List Blk:=(.exit 0,mkT 64 [(1,encU b2 to),(5,.own 0 4 0 l.length)],[.row 39 4 l.length none (cellsOf' encP (moveL l to))])
def vcMvL_q1 (b2:Bool) (to:List Int):Prop:=(b2=b2/\to.length=to.length/\contLe to.length 1 (cellsOf' encI to) (cellsOf' encI to))
def vcMvL_q2 (b1:Bool) (l:List Producer):Prop:=(b1=b1/\l.length=l.length/\contLe l.length 4 (cellsOf' encP l) (cellsOf' encP l))
def vcMvL (b1:Bool) (b2:Bool) (l:List Producer) (to:List Int) (k:Nat):Prop :=
 (decide ((k:Int)<(l.length:Int))=true->(true&&decide ((k:Int)<(l.length:Int)))=true/\((l.getD (Int.toNat (k:Int)) default).here=true->(decide (1<IntKind.u64.wrap (to.length:Int))=true->(decide ((l.getD (Int.toNat (k:Int)) default).offset<=IntKind.u64.wrap (IntKind.i64.wrap ((to.length:Int) - 2)))=true->(decide (0<=IntKind.u64.wrap ((l.getD (Int.toNat (k:Int)) default).offset+1))&&decide (IntKind.u64.wrap ((l.getD (Int.toNat (k:Int)) default).offset+1)<(to.length:Int)))=true/\(decide (0<=(l.getD (Int.toNat (k:Int)) default).offset)&&decide ((l.getD (Int.toNat (k:Int)) default).offset<(to.length:Int)))=true/\(decide (to.getD (Int.toNat (l.getD (Int.toNat (k:Int)) default).offset) 0<to.getD (Int.toNat (IntKind.u64.wrap ((l.getD (Int.toNat (k:Int)) default).offset+1))) 0)=true->(decide (0<=(l.getD (Int.toNat (k:Int)) default).offset)&&decide ((l.getD (Int.toNat (k:Int)) default).offset<(to.length:Int)))=true/\(decide ((List.take k l).length=(List.take k l).length)&&decide ((List.take k l).length+1<=9223372036854775807)&&decide (((List.take k l).length+1)*32<=140737488355328))=true/\∃ j:Nat,l.length - j<l.length - k/\(((vcMvL_q1 b2 to)/\(0=0/\(List.take k l).length+1=(List.take j l).length)/\(vcMvL_q2 b1 l)/\(l.length:Int)=(l.length:Int)/\IntKind.i64.wrap ((k:Int)+1)=(j:Int)/\True)/\(((List.take k l).length+1=(List.take j l).length/\contLe ((List.take k l).length+1) 4 (appRow (List.take k l).length (cellsOf' encP (moveL (List.take k l) to)) fun (k_1 j:Nat)=>Ax.get [AV.y (.int .u64 (l.getD (Int.toNat (k:Int)) default).id),AV.y (.int .u64 (l.getD (Int.toNat (k:Int)) default).seq),AV.s (Value.bool true),AV.y (.int .u64 (to.getD (Int.toNat (l.getD (Int.toNat (k:Int)) default).offset) 0))] (k_1*4+j)) (cellsOf' encP (moveL (List.take j l) to)))/\True)/\true=true)/\true=true/\()=())/\(decide (to.getD (Int.toNat (l.getD (Int.toNat (k:Int)) default).offset) 0<to.getD (Int.toNat (IntKind.u64.wrap ((l.getD (Int.toNat (k:Int)) default).offset+1))) 0)=false->(decide ((List.take k l).length=(List.take k l).length)&&decide ((List.take k l).length+1<=9223372036854775807)&&decide (((List.take k l).length+1)*32<=140737488355328))=true/\∃ j:Nat,l.length - j<l.length - k/\(((vcMvL_q1 b2 to)/\(0=0/\(List.take k l).length+1=(List.take j l).length)/\(vcMvL_q2 b1 l)/\(l.length:Int)=(l.length:Int)/\IntKind.i64.wrap ((k:Int)+1)=(j:Int)/\True)/\(((List.take k l).length+1=(List.take j l).length/\contLe ((List.take k l).length+1) 4 (appRow (List.take k l).length (cellsOf' encP (moveL (List.take k l) to)) fun (k_1 j:Nat)=>Ax.get [AV.y (.int .u64 (l.getD (Int.toNat (k:Int)) default).id),AV.y (.int .u64 (l.getD (Int.toNat (k:Int)) default).seq),AV.s (Value.bool false),AV.s (.int .u64 0)] (k_1*4+j)) (cellsOf' encP (moveL (List.take j l) to)))/\True)/\true=true)/\true=true/\()=()))/\(decide ((l.getD (Int.toNat (k:Int)) default).offset<=IntKind.u64.wrap (IntKind.i64.wrap ((to.length:Int) - 2)))=false->(decide ((List.take k l).length=(List.take k l).length)&&decide ((List.take k l).length+1<=9223372036854775807)&&decide (((List.take k l).length+1)*32<=140737488355328))=true/\∃ j:Nat,l.length - j<l.length - k/\(((vcMvL_q1 b2 to)/\(0=0/\(List.take k l).length+1=(List.take j l).length)/\(vcMvL_q2 b1 l)/\(l.length:Int)=(l.length:Int)/\IntKind.i64.wrap ((k:Int)+1)=(j:Int)/\True)/\(((List.take k l).length+1=(List.take j l).length/\contLe ((List.take k l).length+1) 4 (appRow (List.take k l).length (cellsOf' encP (moveL (List.take k l) to)) fun (k_1 j:Nat)=>Ax.get [AV.y (.int .u64 (l.getD (Int.toNat (k:Int)) default).id),AV.y (.int .u64 (l.getD (Int.toNat (k:Int)) default).seq),AV.s (Value.bool false),AV.s (.int .u64 0)] (k_1*4+j)) (cellsOf' encP (moveL (List.take j l) to)))/\True)/\true=true)/\true=true/\()=()))/\(decide (1<IntKind.u64.wrap (to.length:Int))=false->(decide ((List.take k l).length=(List.take k l).length)&&decide ((List.take k l).length+1<=9223372036854775807)&&decide (((List.take k l).length+1)*32<=140737488355328))=true/\∃ j:Nat,l.length - j<l.length - k/\(((vcMvL_q1 b2 to)/\(0=0/\(List.take k l).length+1=(List.take j l).length)/\(vcMvL_q2 b1 l)/\(l.length:Int)=(l.length:Int)/\IntKind.i64.wrap ((k:Int)+1)=(j:Int)/\True)/\(((List.take k l).length+1=(List.take j l).length/\contLe ((List.take k l).length+1) 4 (appRow (List.take k l).length (cellsOf' encP (moveL (List.take k l) to)) fun (k_1 j:Nat)=>Ax.get [AV.y (.int .u64 (l.getD (Int.toNat (k:Int)) default).id),AV.y (.int .u64 (l.getD (Int.toNat (k:Int)) default).seq),AV.s (Value.bool false),AV.s (.int .u64 0)] (k_1*4+j)) (cellsOf' encP (moveL (List.take j l) to)))/\True)/\true=true)/\true=true/\()=()))/\((l.getD (Int.toNat (k:Int)) default).here=false->(decide ((List.take k l).length=(List.take k l).length)&&decide ((List.take k l).length+1<=9223372036854775807)&&decide (((List.take k l).length+1)*32<=140737488355328))=true/\∃ j:Nat,l.length - j<l.length - k/\(((vcMvL_q1 b2 to)/\(0=0/\(List.take k l).length+1=(List.take j l).length)/\(vcMvL_q2 b1 l)/\(l.length:Int)=(l.length:Int)/\IntKind.i64.wrap ((k:Int)+1)=(j:Int)/\True)/\(((List.take k l).length+1=(List.take j l).length/\contLe ((List.take k l).length+1) 4 (appRow (List.take k l).length (cellsOf' encP (moveL (List.take k l) to)) fun (k_1 j:Nat)=>Ax.get [AV.y (.int .u64 (l.getD (Int.toNat (k:Int)) default).id),AV.y (.int .u64 (l.getD (Int.toNat (k:Int)) default).seq),AV.s (Value.bool false),AV.s (.int .u64 0)] (k_1*4+j)) (cellsOf' encP (moveL (List.take j l) to)))/\True)/\true=true)/\true=true/\()=()))/\(decide ((k:Int)<(l.length:Int))=false->((vcMvL_q1 b2 to)/\(0=0/\(List.take k l).length=l.length)/\True)/\(((List.take k l).length=l.length/\contLe (List.take k l).length 4 (cellsOf' encP (moveL (List.take k l) to)) (cellsOf' encP (moveL l to)))/\True)/\true=true)
theorem vcMvL_eq (b1:Bool) (b2:Bool) (l:List Producer) (to:List Int) (k:Nat):(loopVC Tryz.prog (hT _) 23 3 (fun k=>l.length - k) (mvT b1 b2 l to) (mvM l to) [0,1,2,3,4] (fun _=>.ret ()) (mvS b2 l to) k)=vcMvL b1 b2 l to k:=by kernel_rfl
theorem mv_loop (b1 b2:Bool) (l:List Producer) (to:List Int) (hl:l.length*32<=140737488355200) (ht:to.length<=9223372036854775806) (ho:∀ x∈l,0<=x.offset/\x.offset<18446744073709551616) (k:Nat) (hk:k<=l.length):LoopOk Tryz.prog 23 3 (loopAt Tryz.prog 23 3) ⟨mvT b1 b2 l to k,mvM l to k,[]⟩ (T.map (lout [0,1,2,3,4] (mvS b2 l to)) (.ret ())):=by
 refine loop_vc (o:=fun _=>.ret ()) Tryz.mixed (fun _=>rfl) (fun k=>(vcMvL_eq b1 b2 l to k).mpr ?_) k
 unfold vcMvL vcMvL_q2 vcMvL_q1
 simp
 refine ⟨fun h=>⟨h,?_⟩,fun h=>?_⟩
 · have hy:0<=(l[k]?.getD default).offset/\(l[k]?.getD default).offset<18446744073709551616:=by
    have:=ho l[k] (List.getElem_mem h)
    simpa [h] using this
   have hm:min k l.length=k:=by omega
   have hst:moveL (l.take (k+1)) to=moveL (l.take k) to++[mvP to (l[k]?.getD default)]:=by rw [take_snoc l k h];simp [moveL]
   have hlen:(moveL (l.take k) to).length=k:=by simp [moveL,hm]
   have hw:=wrap_i64 (n:=(k:Int)+1) (by omega) (by omega)
   rw [hw]
   generalize l[k]?.getD default=y at *
   rw [hm]
   have fin:∀ e:List AV,(∀ j,j<4->le0 (Ax.get e j) (Ax.get (encP (mvP to y)) j))->(k<=9223372036854775806/\(k+1)*32<=140737488355328)/\∃ j,l.length - j<l.length - k/\(k+1=min j l.length/\(k:Int)+1=(j:Int))/\k+1=min j l.length/\contLe (k+1) 4 (appRow k (cellsOf' encP (moveL (List.take k l) to)) fun k_1 j=>Ax.get e (k_1*4+j)) (cellsOf' encP (moveL (List.take j l) to)):=by
    intro e he
    refine ⟨⟨by omega,by omega⟩,k+1,by omega,⟨by omega,by omega⟩,by omega,?_⟩
    rw [hst]
    exact app_le (contLe_refl _ _ _) hlen.symm he
   have f0:mvOk y to=false->_:=fun hm=>fin [.y (.int .u64 y.id),.y (.int .u64 y.seq),.s (.bool false),.s (.int .u64 0)] fun j hj=>by
    match j,hj with
    | 0,_=>simp [mvP,hm,encP]
    | 1,_=>simp [mvP,hm,encP]
    | 2,_=>simp [mvP,hm,encP]
    | 3,_=>simp [mvP,hm,encP]
   have f1:mvOk y to=true->_:=fun hm=>fin [.y (.int .u64 y.id),.y (.int .u64 y.seq),.s (.bool true),.y (.int .u64 (to[y.offset.toNat]?.getD 0))] fun j hj=>by
    match j,hj with
    | 0,_=>simp [mvP,hm,encP]
    | 1,_=>simp [mvP,hm,encP]
    | 2,_=>simp [mvP,hm,encP]
    | 3,_=>simp [mvP,hm,encP]
   have hu:IntKind.u64.wrap (to.length:Int)=to.length:=wrap_u64 (by omega) (by omega)
   rw [hu]
   refine ⟨fun hh=>⟨fun h1=>?_,fun h1=>f0 ?_⟩,fun hh=>f0 ?_⟩
   · have hs2:IntKind.u64.wrap (IntKind.i64.wrap ((to.length:Int) - 2))=(to.length:Int) - 2:=by
      rw [wrap_i64 (by omega) (by omega),wrap_u64 (by omega) (by omega)]
     rw [hs2]
     refine ⟨fun h2=>?_,fun h2=>f0 ?_⟩
     · have hs3:IntKind.u64.wrap (y.offset+1)=y.offset+1:=wrap_u64 (by omega) (by omega)
       have hs4:(y.offset+1).toNat=y.offset.toNat+1:=by omega
       rw [hs3,hs4]
       refine ⟨⟨by omega,by omega⟩,⟨by omega,by omega⟩,fun h3=>⟨⟨by omega,by omega⟩,f1 ?_⟩,fun h3=>f0 ?_⟩
       · simp [mvOk,hh]
         exact ⟨by omega,h2,h3⟩
       · simp [mvOk]
         intro _ _ _
         exact h3
     · simp [mvOk]
       intro _ _ h3
       omega
   · simp [mvOk]
     intro _ h3
     omega
   · simp [mvOk,hh]
 · rw [List.take_of_length_le h]
   simp [moveL]
   omega
noncomputable def mvH (b1 b2:Bool) (l:List Producer) (to:List Int):HintsT Tryz.prog :=
 hh _ (lp1 23 3 (jobOf (mvT b1 b2 l to) (mvM l to) [0,1,2,3,4] (fun _=>.ret ()) (mvS b2 l to) 0) noLp) noCs (op1 23 1 0 (.row 39 4) noOp)
def rowR (r:List Producer):T An:=.ret (.own 0 4 0 r.length,[.row 39 4 r.length none (cellsOf' encP r)],[])
def vcMv (b1:Bool) (b2:Bool) (l:List Producer) (to:List Int):Prop :=
 (((b2=b2/\to.length=to.length/\contLe to.length 1 (cellsOf' encI to) (cellsOf' encI to))/\(0=0/\0=0)/\(b1=b1/\l.length=l.length/\contLe l.length 4 (cellsOf' encP l) (cellsOf' encP l))/\(l.length:Int)=(l.length:Int)/\(0:Int)=0/\True)/\((0=0/\contLe 0 4 (fun (x x_1:Nat)=>AV.junk) (cellsOf' encP []))/\True)/\true=true)/\LoopOk Tryz.prog 23 3 (loopAt Tryz.prog 23 3) { t:=mvT b1 b2 l to 0,m:=mvM l to 0,mv:=[]:St } (T.map (lout [0,1,2,3,4] (mvS b2 l to)) ((fun (x:Nat)=>T.ret ()) 0))/\(0=0/\l.length=(moveL l to).length)/\(l.length=(moveL l to).length/\contLe l.length 4 (cellsOf' encP (moveL l to)) (cellsOf' encP (moveL l to)))/\True
theorem vcMv_eq (b1:Bool) (b2:Bool) (l:List Producer) (to:List Int):(ctrVC Tryz.prog (mvH b1 b2 l to) 23 [encPs b1 l,encU b2 to] [] (rowR (moveL l to)))=vcMv b1 b2 l to:=by kernel_rfl
theorem move_c (b1 b2:Bool) (l:List Producer) (to:List Int) (hl:l.length*32<=140737488355200) (ht:to.length<=9223372036854775806) (ho:∀ x∈l,0<=x.offset/\x.offset<18446744073709551616):(rowR (moveL l to)).Sat (ACall' Tryz.prog 23 [encPs b1 l,encU b2 to] []):=by
 refine ctr_vc (ht:=mvH b1 b2 l to) Tryz.mixed rfl ?_
 rw [vcMv_eq b1 b2 l to]
 unfold vcMv
 have hL:=mv_loop b1 b2 l to hl ht ho 0 (Nat.zero_le _)
 simp [hL,moveL]
end Go.Proofs.YtckklclehofddaaGreatDoor.P

namespace Go.Proofs.YtckklclehofddaaGreatDoor.P
open Go.Ax
set_option maxRecDepth 1000000
def oneR (x:Producer):T An:=.ret (.agg (encP x),[],[])
def vcMd (b:Bool) (x:Producer) (to:List Int):Prop :=
 (x.here=true->(decide (0<(to.length:Int))=true->(decide (x.offset<IntKind.u64.wrap (IntKind.i64.wrap ((to.length:Int) - 1)))=true->(decide (0<=IntKind.i64.wrap (IntKind.i64.wrap x.offset+1))&&decide (IntKind.i64.wrap (IntKind.i64.wrap x.offset+1)<(to.length:Int)))=true/\(decide (0<=IntKind.i64.wrap x.offset)&&decide (IntKind.i64.wrap x.offset<(to.length:Int)))=true/\(decide (to.getD (Int.toNat (IntKind.i64.wrap x.offset)) 0<to.getD (Int.toNat (IntKind.i64.wrap (IntKind.i64.wrap x.offset+1))) 0)=true->(decide (0<=IntKind.i64.wrap x.offset)&&decide (IntKind.i64.wrap x.offset<(to.length:Int)))=true/\(x.id=(mvP to x).id/\x.seq=(mvP to x).seq/\true=(mvP to x).here/\to.getD (Int.toNat (IntKind.i64.wrap x.offset)) 0=(mvP to x).offset/\True)/\True)/\(decide (to.getD (Int.toNat (IntKind.i64.wrap x.offset)) 0<to.getD (Int.toNat (IntKind.i64.wrap (IntKind.i64.wrap x.offset+1))) 0)=false->(x.id=(mvP to x).id/\x.seq=(mvP to x).seq/\false=(mvP to x).here/\0=(mvP to x).offset/\True)/\True))/\(decide (x.offset<IntKind.u64.wrap (IntKind.i64.wrap ((to.length:Int) - 1)))=false->(x.id=(mvP to x).id/\x.seq=(mvP to x).seq/\false=(mvP to x).here/\0=(mvP to x).offset/\True)/\True))/\(decide (0<(to.length:Int))=false->(x.id=(mvP to x).id/\x.seq=(mvP to x).seq/\false=(mvP to x).here/\0=(mvP to x).offset/\True)/\True))/\(x.here=false->(x.id=(mvP to x).id/\x.seq=(mvP to x).seq/\false=(mvP to x).here/\0=(mvP to x).offset/\True)/\True)
theorem vcMd_eq (b:Bool) (x:Producer) (to:List Int):(ctrVC Tryz.prog (hT _) 94 [.agg (encP x),encU b to] [] (oneR (mvP to x)))=vcMd b x to:=by kernel_rfl
theorem moved_c (b:Bool) (y:Producer) (to:List Int) (ht:to.length<=9223372036854775806) (ho:0<=y.offset/\y.offset<18446744073709551616):(oneR (mvP to y)).Sat (ACall' Tryz.prog 94 [.agg (encP y),encU b to] []):=by
 refine ctr_vc (ht:=hT _) Tryz.mixed rfl ?_
 rw [vcMd_eq b y to]
 unfold vcMd
 simp [encP]
 have h0:mvOk y to=false->y.id=(mvP to y).id/\y.seq=(mvP to y).seq/\(mvP to y).here=false/\0=(mvP to y).offset:=fun h=>by simp [mvP,h]
 refine ⟨fun hh=>⟨fun h1=>?_,fun h1=>h0 ?_⟩,fun hh=>h0 ?_⟩
 · have hs2:IntKind.u64.wrap (IntKind.i64.wrap ((to.length:Int) - 1))=(to.length:Int) - 1:=by
    rw [wrap_i64 (by omega) (by omega),wrap_u64 (by omega) (by omega)]
   rw [hs2]
   refine ⟨fun h2=>?_,fun h2=>h0 ?_⟩
   · have hs3:IntKind.i64.wrap y.offset=y.offset:=wrap_i64 (by omega) (by omega)
     have hs5:IntKind.i64.wrap (y.offset+1)=y.offset+1:=wrap_i64 (by omega) (by omega)
     have hs4:(y.offset+1).toNat=y.offset.toNat+1:=by omega
     rw [hs3,hs5,hs4]
     refine ⟨⟨by omega,by omega⟩,⟨by omega,by omega⟩,fun h3=>⟨⟨by omega,by omega⟩,?_⟩,fun h3=>h0 ?_⟩
     · have:mvOk y to=true:=by
        simp [mvOk,hh]
        exact ⟨by omega,by omega,h3⟩
       simp [mvP,this]
     · simp [mvOk]
       intro _ _ _
       exact h3
   · simp [mvOk]
     intro _ h3 h4
     omega
 · simp [mvOk,h1]
 · simp [mvOk,hh]
noncomputable def movedN (b:Bool) (x:Producer) (to:List Int):Ctr Tryz.prog:=⟨94,[.agg (encP x),encU b to],[],.need (to.length<=9223372036854775806/\0<=x.offset/\x.offset<18446744073709551616) (oneR (mvP to x)),T.Sat.need fun h=>moved_c b x to h.1 h.2⟩
def rmT (b1 b2:Bool) (l:List Producer) (to:List Int) (k:Nat):List AV:=mkT 23 [(0,encPs b1 l),(1,encU b2 to),(5,.own 0 4 0 (l.take k).length),(6,.y (.int .i64 k))]
def rmS (b1 b2:Bool) (l:List Producer) (to:List Int) (_:Unit):Exit×List AV×List Blk:=(.exit 0,mkT 23 [(0,encPs b1 l),(1,encU b2 to),(5,.own 0 4 0 l.length)],[.row 39 4 l.length none (cellsOf' encP (moveL l to))])
noncomputable def rmH (b2:Bool) (l:List Producer) (to:List Int) (k:Nat):HintsT Tryz.prog:=hh _ noLp (cs1 72 5 6 (movedN b2 (l.getD k default) to) noCs) noOp
def vcRmL (b1:Bool) (b2:Bool) (l:List Producer) (to:List Int) (k:Nat):Prop :=
 (decide ((k:Int)<(l.length:Int))=true->(true&&decide ((k:Int)<(l.length:Int)))=true/\(((l.getD (Int.toNat (k:Int)) default).id=(l.getD k default).id/\(l.getD (Int.toNat (k:Int)) default).seq=(l.getD k default).seq/\(l.getD (Int.toNat (k:Int)) default).here=(l.getD k default).here/\(l.getD (Int.toNat (k:Int)) default).offset=(l.getD k default).offset/\True)/\(b2=b2/\to.length=to.length/\contLe to.length 1 (cellsOf' encI to) (cellsOf' encI to))/\True)/\True/\(to.length<=9223372036854775806/\0<=(l.getD k default).offset/\(l.getD k default).offset<18446744073709551616)/\(decide ((List.take k l).length=(List.take k l).length)&&decide ((List.take k l).length+1<=9223372036854775807)&&decide (((List.take k l).length+1)*32<=140737488355328))=true/\∃ j:Nat,l.length - j<l.length - k/\(((b1=b1/\l.length=l.length/\contLe l.length 4 (cellsOf' encP l) (cellsOf' encP l))/\(b2=b2/\to.length=to.length/\contLe to.length 1 (cellsOf' encI to) (cellsOf' encI to))/\(0=0/\(List.take k l).length+1=(List.take j l).length)/\IntKind.i64.wrap ((k:Int)+1)=(j:Int)/\True)/\(((List.take k l).length+1=(List.take j l).length/\contLe ((List.take k l).length+1) 4 (appRow (List.take k l).length (cellsOf' encP (moveL (List.take k l) to)) fun (k_1 j:Nat)=>Ax.get [AV.y (.int .u64 (mvP to (l.getD k default)).id),AV.y (.int .u64 (mvP to (l.getD k default)).seq),AV.y (.bool (mvP to (l.getD k default)).here),AV.y (.int .u64 (mvP to (l.getD k default)).offset)] (k_1*4+j)) (cellsOf' encP (moveL (List.take j l) to)))/\True)/\true=true)/\true=true/\()=())/\(decide ((k:Int)<(l.length:Int))=false->((b1=b1/\l.length=l.length/\contLe l.length 4 (cellsOf' encP l) (cellsOf' encP l))/\(b2=b2/\to.length=to.length/\contLe to.length 1 (cellsOf' encI to) (cellsOf' encI to))/\(0=0/\(List.take k l).length=l.length)/\True)/\(((List.take k l).length=l.length/\contLe (List.take k l).length 4 (cellsOf' encP (moveL (List.take k l) to)) (cellsOf' encP (moveL l to)))/\True)/\true=true)
theorem vcRmL_eq (b1:Bool) (b2:Bool) (l:List Producer) (to:List Int) (k:Nat):(loopVC Tryz.prog (rmH b2 l to k) 72 3 (fun k=>l.length - k) (rmT b1 b2 l to) (mvM l to) [0,1,2,3,4] (fun _=>.ret ()) (rmS b1 b2 l to) k)=vcRmL b1 b2 l to k:=by kernel_rfl
theorem rm_loop (b1 b2:Bool) (l:List Producer) (to:List Int) (hl:l.length*32<=140737488355200) (ht:to.length<=9223372036854775806) (ho:∀ x∈l,0<=x.offset/\x.offset<18446744073709551616) (k:Nat):LoopOk Tryz.prog 72 3 (loopAt Tryz.prog 72 3) ⟨rmT b1 b2 l to k,mvM l to k,[]⟩ (T.map (lout [0,1,2,3,4] (rmS b1 b2 l to)) (.ret ())):=by
 refine loop_vcH (o:=fun _=>.ret ()) Tryz.mixed (fun _=>rfl) (fun k=>(vcRmL_eq b1 b2 l to k).mpr ?_) k
 unfold vcRmL
 simp
 refine ⟨fun h=>⟨h,?_⟩,fun h=>?_⟩
 · have hy:0<=(l[k]?.getD default).offset/\(l[k]?.getD default).offset<18446744073709551616:=by
    have:=ho l[k] (List.getElem_mem h)
    simpa [h] using this
   have hm:min k l.length=k:=by omega
   have hst:moveL (l.take (k+1)) to=moveL (l.take k) to++[mvP to (l[k]?.getD default)]:=by rw [take_snoc l k h];simp [moveL]
   have hlen:(moveL (l.take k) to).length=k:=by simp [moveL,hm]
   have hw:=wrap_i64 (n:=(k:Int)+1) (by omega) (by omega)
   rw [hw]
   generalize l[k]?.getD default=y at *
   rw [hm]
   refine ⟨⟨ht,hy⟩,⟨by omega,by omega⟩,k+1,by omega,⟨by omega,by omega⟩,by omega,?_⟩
   rw [hst]
   refine app_le (contLe_refl _ _ _) hlen.symm fun j hj=>?_
   match j,hj with
   | 0,_=>simp [encP]
   | 1,_=>simp [encP]
   | 2,_=>simp [encP]
   | 3,_=>simp [encP]
 · rw [List.take_of_length_le h]
   simp [moveL]
   omega
def lat (x y:Producer):Bool:=decide (y.seq<x.seq)||(x.seq==y.seq&&(x.here&&!y.here))
def boolR (b:Bool):T An:=.ret (.y (.bool b),[],[])
def vcLat (x:Producer) (y:Producer):Prop :=
 (decide (y.seq<x.seq)=true->true=lat x y/\True)/\(decide (y.seq<x.seq)=false->((x.seq==y.seq)=true->(x.here=true->(!y.here)=lat x y/\True)/\(x.here=false->false=lat x y/\True))/\((x.seq==y.seq)=false->false=lat x y/\True))
theorem vcLat_eq (x:Producer) (y:Producer):(ctrVC Tryz.prog (hT _) 87 [.agg (encP x),.agg (encP y)] [] (boolR (lat x y)))=vcLat x y:=by kernel_rfl
theorem later_c (x y:Producer):(boolR (lat x y)).Sat (ACall' Tryz.prog 87 [.agg (encP x),.agg (encP y)] []):=by
 refine ctr_vc (ht:=hT _) Tryz.mixed rfl ?_
 rw [vcLat_eq x y]
 unfold vcLat
 simp [lat]
 grind
noncomputable def rmvH (b1 b2:Bool) (l:List Producer) (to:List Int):HintsT Tryz.prog :=
 hh _ (lp1 72 3 (jobOf (rmT b1 b2 l to) (mvM l to) [0,1,2,3,4] (fun _=>.ret ()) (rmS b1 b2 l to) 0) noLp) noCs (op1 72 1 0 (.row 39 4) noOp)
def vcRmv (b1:Bool) (b2:Bool) (l:List Producer) (to:List Int):Prop :=
 (((b1=b1/\l.length=l.length/\contLe l.length 4 (cellsOf' encP l) (cellsOf' encP l))/\(b2=b2/\to.length=to.length/\contLe to.length 1 (cellsOf' encI to) (cellsOf' encI to))/\(0=0/\0=0)/\(0:Int)=0/\True)/\((0=0/\contLe 0 4 (fun (x x_1:Nat)=>AV.junk) (cellsOf' encP []))/\True)/\true=true)/\LoopOk Tryz.prog 72 3 (loopAt Tryz.prog 72 3) { t:=rmT b1 b2 l to 0,m:=mvM l to 0,mv:=[]:St } (T.map (lout [0,1,2,3,4] (rmS b1 b2 l to)) ((fun (x:Nat)=>T.ret ()) 0))/\(0=0/\l.length=(moveL l to).length)/\(l.length=(moveL l to).length/\contLe l.length 4 (cellsOf' encP (moveL l to)) (cellsOf' encP (moveL l to)))/\True
theorem vcRmv_eq (b1:Bool) (b2:Bool) (l:List Producer) (to:List Int):(ctrVC Tryz.prog (rmvH b1 b2 l to) 72 [encPs b1 l,encU b2 to] [] (rowR (moveL l to)))=vcRmv b1 b2 l to:=by kernel_rfl
theorem rmove_c (b1 b2:Bool) (l:List Producer) (to:List Int) (hl:l.length*32<=140737488355200) (ht:to.length<=9223372036854775806) (ho:∀ x∈l,0<=x.offset/\x.offset<18446744073709551616):(rowR (moveL l to)).Sat (ACall' Tryz.prog 72 [encPs b1 l,encU b2 to] []):=by
 refine ctr_vc (ht:=rmvH b1 b2 l to) Tryz.mixed rfl ?_
 rw [vcRmv_eq b1 b2 l to]
 unfold vcRmv
 have hL:=rm_loop b1 b2 l to hl ht ho 0
 simp [hL,moveL]
end Go.Proofs.YtckklclehofddaaGreatDoor.P

namespace Go.Proofs.YtckklclehofddaaGreatDoor.P
open Go.Ax
set_option maxRecDepth 1000000
noncomputable def findN (b:Bool) (l:List Producer) (id:Int):Ctr Tryz.prog:=⟨49,[encPs b l,.y (.int .u64 id)],[],.need (l.length<=9223372036854775806) (findR l id),T.Sat.need fun h=>find_c b l id h⟩
noncomputable def idxN (b:Bool) (l:List Producer) (id:Int):Ctr Tryz.prog:=⟨73,[encPs b l,.y (.int .u64 id)],[],.need (l.length<=9223372036854775806) (idxR l id),T.Sat.need fun h=>idx_c b l id h⟩
noncomputable def latC (x y:Producer):Ctr Tryz.prog:=⟨87,[.agg (encP x),.agg (encP y)],[],boolR (lat x y),later_c x y⟩
def bst (s:List Producer) (x:Producer):List Producer:=if !findI s x.id||lat x (findD s x.id) then putL s x else s
def both (s m:List Producer) (k:Nat):List Producer:=(m.take k).foldl bst s
theorem both_step {s m:List Producer} {k:Nat} (h:k<m.length):both s m (k+1)=bst (both s m k) (m[k]?.getD default):=by
 unfold both
 rw [take_snoc m k h,List.foldl_append];rfl
theorem both_end {s m:List Producer} {k:Nat} (h:m.length<=k):both s m k=both s m m.length:=by
 unfold both
 rw [List.take_of_length_le h,List.take_length]
theorem mem_putL {l:List Producer} {x z:Producer} (h:z∈putL l x):z=x∨z∈l:=by
 unfold putL at h
 rw [List.mem_append,List.mem_cons] at h
 rcases h with h | h | h
 · exact Or.inr (List.mem_filter.1 (List.mem_of_mem_take h)).1
 · exact Or.inl h
 · exact Or.inr (List.mem_filter.1 (List.mem_of_mem_drop h)).1
theorem putL_pw (x:Producer):∀ l:List Producer,l.Pairwise (fun a b=>a.id<b.id)->(putL l x).Pairwise (fun a b=>a.id<b.id):=by
 intro l
 induction l with
 | nil=>intro _;simp [putL,oth,below]
 | cons y t ih =>
   intro h
   have hp:=List.pairwise_cons.1 h
   by_cases h1:x.id<=y.id
   · rw [putL_ge h1 hp.1,List.pairwise_cons]
     refine ⟨fun z hz=>?_,h.filter _⟩
     have hz':=List.mem_filter.1 hz
     have h2:¬ z.id=x.id:=by simpa [keep] using hz'.2
     rcases List.mem_cons.1 hz'.1 with h3 | h3
     · rw [h3] at h2 ⊢;omega
     · have:=hp.1 z h3;omega
   · rw [putL_cons_lt (by omega),List.pairwise_cons]
     refine ⟨fun z hz=>?_,ih hp.2⟩
     rcases mem_putL hz with h3 | h3
     · rw [h3];omega
     · exact hp.1 z h3
theorem putL_rising {l:List Producer} {x:Producer} (h:rising l):rising (putL l x):=(rising_pw _).2 (putL_pw x l ((rising_pw l).1 h))
theorem both_inv {s m:List Producer} (h:rising s):∀ k,rising (both s m k)/\(both s m k).length<=s.length+k:=by
 intro k
 induction k with
 | zero=>exact ⟨h,by simp [both]⟩
 | succ k ih =>
   rcases Nat.lt_or_ge k m.length with hk | hk
   · rw [both_step hk]
     unfold bst
     split
     · refine ⟨putL_rising ih.1,?_⟩
       have:(oth (both s m k) (m[k]?.getD default)).length<=(both s m k).length:=List.length_filter_le _ _
       rw [putL_len];omega
     · exact ⟨ih.1,by omega⟩
   · rw [both_end (k:=k+1) (by omega),<- both_end hk]
     exact ⟨ih.1,by omega⟩
theorem move_rising {l:List Producer} {to:List Int} (h:rising l):rising (moveL l to):=by
 rw [rising_pw] at h ⊢
 unfold moveL
 rw [List.pairwise_map]
 refine h.imp fun {a b} hab=>?_
 have key:∀ x,(mvP to x).id=x.id:=fun x=>by unfold mvP;split<;>rfl
 rw [key,key];exact hab
theorem tag_encP (l:List Producer) (k j:Nat) (h:j<4):tagT (cellsOf' encP l k j)=true:=by
 match j,h with
 | 0,_=>rfl
 | 1,_=>rfl
 | 2,_=>rfl
 | 3,_=>rfl
def boT (s m:List Producer) (k:Nat):List AV:=mkT 56 [(10,.own 0 4 0 (both s m k).length),(28,.own 1 4 0 m.length),(29,.y (.int .i64 m.length)),(30,.y (.int .i64 k))]
def boM (s m:List Producer) (k:Nat):List Blk:=[.row 39 4 (both s m k).length none (cellsOf' encP (both s m k)),.row 39 4 m.length none (cellsOf' encP m)]
def boS (s m:List Producer) (_:Unit):Exit×List AV×List Blk:=(.exit 0,mkT 56 [(10,.own 0 4 0 (both s m m.length).length)],[.row 39 4 (both s m m.length).length none (cellsOf' encP (both s m m.length))])
noncomputable def boH (s m:List Producer) (k:Nat):HintsT Tryz.prog :=
 withSh (hh _ noLp (cs1 59 7 3 (findN false (both s m k) (m.getD k default).id) (cs1 59 8 5 (latC (m.getD k default) (findD (both s m k) (m.getD k default).id)) (cs1 59 9 2 (putN false (both s m k) (m.getD k default)) noCs))) noOp) (sh1 59 9 3 2 noSh)
def vcBoL_q1 (m:List Producer) (k:Nat):Prop:=((m.getD (0+Int.toNat (k:Int)) default).id=(m.getD k default).id/\(m.getD (0+Int.toNat (k:Int)) default).seq=(m.getD k default).seq/\(m.getD (0+Int.toNat (k:Int)) default).here=(m.getD k default).here/\(m.getD (0+Int.toNat (k:Int)) default).offset=(m.getD k default).offset/\True)
def vcBoL_q2 (s:List Producer) (m:List Producer) (k:Nat):Prop:=(false=false/\(both s m k).length=(both s m k).length/\contLe (both s m k).length 4 (Ax.rowAt 0 (cellsOf' encP (both s m k))) (cellsOf' encP (both s m k)))
def vcBoL (s:List Producer) (m:List Producer) (k:Nat):Prop :=
 (decide ((k:Int)<(m.length:Int))=true->(true&&decide ((k:Int)<(m.length:Int)))=true/\decide (0+Int.toNat (k:Int)<m.length)=true/\((vcBoL_q2 s m k)/\(m.getD (0+Int.toNat (k:Int)) default).id=(m.getD k default).id/\True)/\True/\(both s m k).length<=9223372036854775806/\true=true/\True/\((!findI (both s m k) (m.getD k default).id)=true->((vcBoL_q2 s m k)/\(vcBoL_q1 m k)/\True)/\True/\((both s m k).length*32<=140737488355296/\∀ (i j:Nat),i<j->j<(both s m k).length->((both s m k).getD i default).id<((both s m k).getD j default).id)/\true=true/\((∀ k_1,k_1<(putL (both s m k) (m.getD k default)).length->∀ j,j<4->tagT (cellsOf' encP (putL (both s m k) (m.getD k default)) k_1 j)=true)/\True)/\∃ j:Nat,m.length - j<m.length - k/\(((0=0/\(putL (both s m k) (m.getD k default)).length=(both s m j).length)/\(0=0/\m.length=m.length)/\(m.length:Int)=(m.length:Int)/\IntKind.i64.wrap ((k:Int)+1)=(j:Int)/\True)/\(((putL (both s m k) (m.getD k default)).length=(both s m j).length/\contLe (putL (both s m k) (m.getD k default)).length 4 (cellsOf' encP (putL (both s m k) (m.getD k default))) (cellsOf' encP (both s m j)))/\(m.length=m.length/\contLe m.length 4 (cellsOf' encP m) (cellsOf' encP m))/\True)/\true=true)/\true=true/\()=())/\((!findI (both s m k) (m.getD k default).id)=false->((vcBoL_q1 m k)/\((findD (both s m k) (m.getD k default).id).id=(findD (both s m k) (m.getD k default).id).id/\(findD (both s m k) (m.getD k default).id).seq=(findD (both s m k) (m.getD k default).id).seq/\(findD (both s m k) (m.getD k default).id).here=(findD (both s m k) (m.getD k default).id).here/\(findD (both s m k) (m.getD k default).id).offset=(findD (both s m k) (m.getD k default).id).offset/\True)/\True)/\True/\(lat (m.getD k default) (findD (both s m k) (m.getD k default).id)=true->((vcBoL_q2 s m k)/\(vcBoL_q1 m k)/\True)/\True/\((both s m k).length*32<=140737488355296/\∀ (i j:Nat),i<j->j<(both s m k).length->((both s m k).getD i default).id<((both s m k).getD j default).id)/\true=true/\((∀ k_1,k_1<(putL (both s m k) (m.getD k default)).length->∀ j,j<4->tagT (cellsOf' encP (putL (both s m k) (m.getD k default)) k_1 j)=true)/\True)/\∃ j:Nat,m.length - j<m.length - k/\(((0=0/\(putL (both s m k) (m.getD k default)).length=(both s m j).length)/\(0=0/\m.length=m.length)/\(m.length:Int)=(m.length:Int)/\IntKind.i64.wrap ((k:Int)+1)=(j:Int)/\True)/\(((putL (both s m k) (m.getD k default)).length=(both s m j).length/\contLe (putL (both s m k) (m.getD k default)).length 4 (cellsOf' encP (putL (both s m k) (m.getD k default))) (cellsOf' encP (both s m j)))/\(m.length=m.length/\contLe m.length 4 (cellsOf' encP m) (cellsOf' encP m))/\True)/\true=true)/\true=true/\()=())/\(lat (m.getD k default) (findD (both s m k) (m.getD k default).id)=false->∃ j:Nat,m.length - j<m.length - k/\(((0=0/\(both s m k).length=(both s m j).length)/\(0=0/\m.length=m.length)/\(m.length:Int)=(m.length:Int)/\IntKind.i64.wrap ((k:Int)+1)=(j:Int)/\True)/\(((both s m k).length=(both s m j).length/\contLe (both s m k).length 4 (cellsOf' encP (both s m k)) (cellsOf' encP (both s m j)))/\(m.length=m.length/\contLe m.length 4 (cellsOf' encP m) (cellsOf' encP m))/\True)/\true=true)/\true=true/\()=())))/\(decide ((k:Int)<(m.length:Int))=false->((0=0/\(both s m k).length=(both s m m.length).length)/\True)/\(((both s m k).length=(both s m m.length).length/\contLe (both s m k).length 4 (cellsOf' encP (both s m k)) (cellsOf' encP (both s m m.length)))/\True)/\true=true)
theorem vcBoL_eq (s:List Producer) (m:List Producer) (k:Nat):(loopVC Tryz.prog (boH s m k) 59 5 (fun k=>m.length - k) (boT s m) (boM s m) [0,1,2,3,4,5,6,7] (fun _=>.ret ()) (boS s m) k)=vcBoL s m k:=by kernel_rfl
theorem bo_loop (s m:List Producer) (hs:rising s) (h1:s.length<=256) (h2:m.length<=256) (k:Nat):LoopOk Tryz.prog 59 5 (loopAt Tryz.prog 59 5) ⟨boT s m k,boM s m k,[]⟩ (T.map (lout [0,1,2,3,4,5,6,7] (boS s m)) (.ret ())):=by
 refine loop_vcH (o:=fun _=>.ret ()) Tryz.mixed (fun _=>rfl) (fun k=>(vcBoL_eq s m k).mpr ?_) k
 unfold vcBoL vcBoL_q2 vcBoL_q1
 simp
 have hinv:=both_inv (s:=s) (m:=m) hs k
 refine ⟨fun h=>?_,fun h=>?_⟩
 · have hst:=both_step (s:=s) (m:=m) h
   have hw:=wrap_i64 (n:=(k:Int)+1) (by omega) (by omega)
   rw [hw]
   have hr:=hinv.1
   unfold rising at hr
   simp only [List.getD_eq_getElem?_getD] at hr
   unfold bst at hst
   generalize m[k]?.getD default=x at *
   by_cases hf:findI (both s m k) x.id=true
   · by_cases hl:lat x (findD (both s m k) x.id)=true
     · simp [hf,hl] at hst ⊢
       refine ⟨h,by omega,⟨by omega,hr⟩,fun k _ j hj=>tag_encP _ k j hj,k+1,by omega,⟨by rw [hst],by omega⟩,by rw [hst],?_⟩
       rw [hst];exact contLe_refl _ _ _
     · simp [hf,hl] at hst ⊢
       refine ⟨h,by omega,k+1,by omega,⟨by rw [hst],by omega⟩,by rw [hst],?_⟩
       rw [hst];exact contLe_refl _ _ _
   · simp [hf] at hst ⊢
     refine ⟨h,by omega,⟨by omega,hr⟩,fun k _ j hj=>tag_encP _ k j hj,k+1,by omega,⟨by rw [hst],by omega⟩,by rw [hst],?_⟩
     rw [hst];exact contLe_refl _ _ _
 · rw [both_end h]
   exact ⟨rfl,contLe_refl _ _ _⟩
def bothL (a b:List Producer) (ta tb:List Int):List Producer:=both (moveL a ta) (moveL b tb) (moveL b tb).length
def bothE (a b:List Producer) (ta tb:List Int):Int:=if !(isTable a&&isTable b) then 1 else if decide (256<(bothL a b ta tb).length) then 153 else 0
def rowE (r:List Producer) (e:Int):T An:=.ite (e==0)
 (.ret (.tup [.own 0 4 0 r.length,.s (.int .i64 0)],[.row 39 4 r.length none (cellsOf' encP r)],[]))
 (.ret (.tup [.s (.slice none 0 0),.y (.int .i64 e)],[],[]))
noncomputable def moveN (b1 b2:Bool) (l:List Producer) (to:List Int):Ctr Tryz.prog:=⟨23,[encPs b1 l,encU b2 to],[],.need (l.length*32<=140737488355200/\to.length<=9223372036854775806/\∀ x∈l,0<=x.offset/\x.offset<18446744073709551616) (rowR (moveL l to)),T.Sat.need fun h=>move_c b1 b2 l to h.1 h.2.1 h.2.2⟩
noncomputable def rmoveN (b1 b2:Bool) (l:List Producer) (to:List Int):Ctr Tryz.prog:=⟨72,[encPs b1 l,encU b2 to],[],.need (l.length*32<=140737488355200/\to.length<=9223372036854775806/\∀ x∈l,0<=x.offset/\x.offset<18446744073709551616) (rowR (moveL l to)),T.Sat.need fun h=>rmove_c b1 b2 l to h.1 h.2.1 h.2.2⟩
noncomputable def tabN (b:Bool) (l:List Producer):Ctr Tryz.prog:=⟨43,[encPs b l],[],.need (l.length<=9223372036854775806) (tabR l),T.Sat.need fun h=>table_c b l h⟩
noncomputable def tabN2 (b:Bool) (l:List Producer):Ctr Tryz.prog:=⟨65,[encPs b l],[],.need (l.length<=9223372036854775806) (tabR l),T.Sat.need fun h=>table2_c b l h⟩
noncomputable def bothH (b1 b2 b3 b4:Bool) (a b:List Producer) (ta tb:List Int):HintsT Tryz.prog :=
 hh _ (lp1 59 5 (jobOf (boT (moveL a ta) (moveL b tb)) (boM (moveL a ta) (moveL b tb)) [0,1,2,3,4,5,6,7] (fun _=>.ret ()) (boS (moveL a ta) (moveL b tb)) 0) noLp)
  (cs1 59 1 1 (tabN b1 a) (cs1 59 1 5 (tabN b2 b) (cs1 59 3 2 (moveN b1 b3 a ta) (cs1 59 4 2 (moveN b2 b4 b tb) noCs)))) noOp
def vcBo (b1:Bool) (b2:Bool) (b3:Bool) (b4:Bool) (a:List Producer) (b:List Producer) (ta:List Int) (tb:List Int):Prop :=
 ((b1=b1/\a.length=a.length/\contLe a.length 4 (cellsOf' encP a) (cellsOf' encP a))/\True)/\True/\a.length<=9223372036854775806/\((!isTable a)=true->((bothE a b ta tb==0)=true->(False/\(1:Int)=0/\True)/\False)/\((bothE a b ta tb==0)=false->(True/\1=bothE a b ta tb/\True)/\True))/\((!isTable a)=false->((b2=b2/\b.length=b.length/\contLe b.length 4 (cellsOf' encP b) (cellsOf' encP b))/\True)/\True/\b.length<=9223372036854775806/\((!isTable b)=true->((bothE a b ta tb==0)=true->(False/\(1:Int)=0/\True)/\False)/\((bothE a b ta tb==0)=false->(True/\1=bothE a b ta tb/\True)/\True))/\((!isTable b)=false->((b1=b1/\a.length=a.length/\contLe a.length 4 (cellsOf' encP a) (cellsOf' encP a))/\(b3=b3/\ta.length=ta.length/\contLe ta.length 1 (cellsOf' encI ta) (cellsOf' encI ta))/\True)/\True/\(a.length*32<=140737488355200/\ta.length<=9223372036854775806/\∀ (x:Producer),x∈a->0<=x.offset/\x.offset<18446744073709551616)/\((b2=b2/\b.length=b.length/\contLe b.length 4 (cellsOf' encP b) (cellsOf' encP b))/\(b4=b4/\tb.length=tb.length/\contLe tb.length 1 (cellsOf' encI tb) (cellsOf' encI tb))/\True)/\True/\(b.length*32<=140737488355200/\tb.length<=9223372036854775806/\∀ (x:Producer),x∈b->0<=x.offset/\x.offset<18446744073709551616)/\(((0=0/\(moveL a ta).length=(both (moveL a ta) (moveL b tb) 0).length)/\(0=0/\(moveL b tb).length=(moveL b tb).length)/\((moveL b tb).length:Int)=((moveL b tb).length:Int)/\(0:Int)=0/\True)/\(((moveL a ta).length=(both (moveL a ta) (moveL b tb) 0).length/\contLe (moveL a ta).length 4 (cellsOf' encP (moveL a ta)) (cellsOf' encP (both (moveL a ta) (moveL b tb) 0)))/\((moveL b tb).length=(moveL b tb).length/\contLe (moveL b tb).length 4 (cellsOf' encP (moveL b tb)) (cellsOf' encP (moveL b tb)))/\True)/\true=true)/\LoopOk Tryz.prog 59 5 (loopAt Tryz.prog 59 5) { t:=boT (moveL a ta) (moveL b tb) 0,m:=boM (moveL a ta) (moveL b tb) 0,mv:=[]:St } (T.map (lout [0,1,2,3,4,5,6,7] (boS (moveL a ta) (moveL b tb))) ((fun (x:Nat)=>T.ret ()) 0))/\(decide (256<((both (moveL a ta) (moveL b tb) (moveL b tb).length).length:Int))=true->((bothE a b ta tb==0)=true->(False/\(153:Int)=0/\True)/\False)/\((bothE a b ta tb==0)=false->(True/\153=bothE a b ta tb/\True)/\True))/\(decide (256<((both (moveL a ta) (moveL b tb) (moveL b tb).length).length:Int))=false->((bothE a b ta tb==0)=true->((0=0/\(both (moveL a ta) (moveL b tb) (moveL b tb).length).length=(bothL a b ta tb).length)/\(0:Int)=0/\True)/\((both (moveL a ta) (moveL b tb) (moveL b tb).length).length=(bothL a b ta tb).length/\contLe (both (moveL a ta) (moveL b tb) (moveL b tb).length).length 4 (cellsOf' encP (both (moveL a ta) (moveL b tb) (moveL b tb).length)) (cellsOf' encP (bothL a b ta tb)))/\True)/\((bothE a b ta tb==0)=false->False))))
theorem vcBo_eq (b1:Bool) (b2:Bool) (b3:Bool) (b4:Bool) (a:List Producer) (b:List Producer) (ta:List Int) (tb:List Int):(ctrVC Tryz.prog (bothH b1 b2 b3 b4 a b ta tb) 59 [encPs b1 a,encPs b2 b,encU b3 ta,encU b4 tb] [] (rowE (bothL a b ta tb) (bothE a b ta tb)))=vcBo b1 b2 b3 b4 a b ta tb:=by kernel_rfl
theorem both_c (b1 b2 b3 b4:Bool) (a b:List Producer) (ta tb:List Int) (h1:a.length*32<=140737488355200) (h2:b.length*32<=140737488355200) (h3:ta.length<=9223372036854775806) (h4:tb.length<=9223372036854775806) (ha:∀ x∈a,0<=x.offset/\x.offset<18446744073709551616) (hb:∀ x∈b,0<=x.offset/\x.offset<18446744073709551616):(rowE (bothL a b ta tb) (bothE a b ta tb)).Sat (ACall' Tryz.prog 59 [encPs b1 a,encPs b2 b,encU b3 ta,encU b4 tb] []):=by
 refine ctr_vc (ht:=bothH b1 b2 b3 b4 a b ta tb) Tryz.mixed rfl ?_
 rw [vcBo_eq b1 b2 b3 b4 a b ta tb]
 unfold vcBo
 have hA:isTable a=true->a.length<=256:=by unfold isTable;simp
 have hB:isTable b=true->b.length<=256:=by unfold isTable;simp
 by_cases ht:isTable a=true
 · by_cases ht2:isTable b=true
   · have hL:=bo_loop (moveL a ta) (moveL b tb) (move_rising (table_rising ht)) (by simpa [moveL] using hA ht) (by simpa [moveL] using hB ht2) 0
     simp [bothE,bothL,ht,ht2]
     refine ⟨by omega,by omega,⟨h1,h3,ha⟩,⟨h2,h4,hb⟩,⟨rfl,contLe_refl _ _ _⟩,hL,fun h=>?_,fun h=>?_⟩
     · have:256<(both (moveL a ta) (moveL b tb) (moveL b tb).length).length:=by omega
       simp [this]
     · have:¬ 256<(both (moveL a ta) (moveL b tb) (moveL b tb).length).length:=by omega
       simp [this]
   · simp [bothE,ht,ht2]
     omega
 · simp [bothE,ht]
   omega
def rbT (s m:List Producer) (k:Nat):List AV:=mkT 98 [(12,.own 0 4 0 (both s m k).length),(13,.own 1 4 0 m.length),(14,.y (.int .i64 k))]
def rbS (s m:List Producer) (_:Unit):Exit×List AV×List Blk:=(.exit 0,mkT 98 [(12,.own 0 4 0 (both s m m.length).length)],[.row 39 4 (both s m m.length).length none (cellsOf' encP (both s m m.length))])
noncomputable def rbH (s m:List Producer) (k:Nat):HintsT Tryz.prog :=
 withSh (hh _ noLp (cs1 37 10 6 (idxN false (both s m k) (m.getD k default).id) (cs1 37 12 5 (rputN false (both s m k) (m.getD k default)) noCs)) noOp) (sh1 37 12 6 2 noSh)
def vcRbL_q1 (s:List Producer) (m:List Producer) (k:Nat):Prop:=((false=false/\(both s m k).length=(both s m k).length/\contLe (both s m k).length 4 (Ax.rowAt 0 (cellsOf' encP (both s m k))) (cellsOf' encP (both s m k)))/\((m.getD (0+Int.toNat (k:Int)) default).id=(m.getD k default).id/\(m.getD (0+Int.toNat (k:Int)) default).seq=(m.getD k default).seq/\(m.getD (0+Int.toNat (k:Int)) default).here=(m.getD k default).here/\(m.getD (0+Int.toNat (k:Int)) default).offset=(m.getD k default).offset/\True)/\True)
def vcRbL_q2 (s:List Producer) (m:List Producer) (k:Nat):Prop:=((both s m k).length*32<=140737488355200/\∀ (i j:Nat),i<j->j<(both s m k).length->((both s m k).getD i default).id<((both s m k).getD j default).id)
def vcRbL_q3 (s:List Producer) (m:List Producer) (k:Nat):Prop:=((∀ k_1,k_1<(putL (both s m k) (m.getD k default)).length->∀ j,j<4->tagT (cellsOf' encP (putL (both s m k) (m.getD k default)) k_1 j)=true)/\True)
def vcRbL_q4 (m:List Producer):Prop:=(m.length=m.length/\contLe m.length 4 (cellsOf' encP m) (cellsOf' encP m))
def vcRbL (s:List Producer) (m:List Producer) (k:Nat):Prop :=
 (decide ((k:Int)<(m.length:Int))=true->(true&&decide ((k:Int)<(m.length:Int)))=true/\decide (0+Int.toNat (k:Int)<m.length)=true/\((false=false/\(both s m k).length=(both s m k).length/\contLe (both s m k).length 4 (Ax.rowAt 0 (cellsOf' encP (both s m k))) (cellsOf' encP (both s m k)))/\(m.getD (0+Int.toNat (k:Int)) default).id=(m.getD k default).id/\True)/\True/\(both s m k).length<=9223372036854775806/\true=true/\True/\(decide (idxZ (both s m k) (m.getD k default).id<0)=true->(true&&decide ((k:Int)<(m.length:Int)))=true/\decide (0+Int.toNat (k:Int)<m.length)=true/\(vcRbL_q1 s m k)/\True/\(vcRbL_q2 s m k)/\true=true/\(vcRbL_q3 s m k)/\∃ j:Nat,m.length - j<m.length - k/\(((0=0/\(putL (both s m k) (m.getD k default)).length=(both s m j).length)/\(0=0/\m.length=m.length)/\IntKind.i64.wrap ((k:Int)+1)=(j:Int)/\True)/\(((putL (both s m k) (m.getD k default)).length=(both s m j).length/\contLe (putL (both s m k) (m.getD k default)).length 4 (cellsOf' encP (putL (both s m k) (m.getD k default))) (cellsOf' encP (both s m j)))/\(vcRbL_q4 m)/\True)/\true=true)/\true=true/\()=())/\(decide (idxZ (both s m k) (m.getD k default).id<0)=false->(true&&decide ((k:Int)<(m.length:Int)))=true/\decide (0+Int.toNat (k:Int)<m.length)=true/\(decide (0<=idxZ (both s m k) (m.getD k default).id)&&decide (idxZ (both s m k) (m.getD k default).id<((both s m k).length:Int)))=true/\decide (0+Int.toNat (idxZ (both s m k) (m.getD k default).id)<(both s m k).length)=true/\(decide (((both s m k).getD (0+Int.toNat (idxZ (both s m k) (m.getD k default).id)) default).seq<(m.getD (0+Int.toNat (k:Int)) default).seq)=true->(true&&decide ((k:Int)<(m.length:Int)))=true/\decide (0+Int.toNat (k:Int)<m.length)=true/\(vcRbL_q1 s m k)/\True/\(vcRbL_q2 s m k)/\true=true/\(vcRbL_q3 s m k)/\∃ j:Nat,m.length - j<m.length - k/\(((0=0/\(putL (both s m k) (m.getD k default)).length=(both s m j).length)/\(0=0/\m.length=m.length)/\IntKind.i64.wrap ((k:Int)+1)=(j:Int)/\True)/\(((putL (both s m k) (m.getD k default)).length=(both s m j).length/\contLe (putL (both s m k) (m.getD k default)).length 4 (cellsOf' encP (putL (both s m k) (m.getD k default))) (cellsOf' encP (both s m j)))/\(vcRbL_q4 m)/\True)/\true=true)/\true=true/\()=())/\(decide (((both s m k).getD (0+Int.toNat (idxZ (both s m k) (m.getD k default).id)) default).seq<(m.getD (0+Int.toNat (k:Int)) default).seq)=false->(true&&decide ((k:Int)<(m.length:Int)))=true/\decide (0+Int.toNat (k:Int)<m.length)=true/\(decide (0<=idxZ (both s m k) (m.getD k default).id)&&decide (idxZ (both s m k) (m.getD k default).id<((both s m k).length:Int)))=true/\decide (0+Int.toNat (idxZ (both s m k) (m.getD k default).id)<(both s m k).length)=true/\(((m.getD (0+Int.toNat (k:Int)) default).seq==((both s m k).getD (0+Int.toNat (idxZ (both s m k) (m.getD k default).id)) default).seq)=true->(true&&decide ((k:Int)<(m.length:Int)))=true/\decide (0+Int.toNat (k:Int)<m.length)=true/\((m.getD (0+Int.toNat (k:Int)) default).here=true->(decide (0<=idxZ (both s m k) (m.getD k default).id)&&decide (idxZ (both s m k) (m.getD k default).id<((both s m k).length:Int)))=true/\decide (0+Int.toNat (idxZ (both s m k) (m.getD k default).id)<(both s m k).length)=true/\((!((both s m k).getD (0+Int.toNat (idxZ (both s m k) (m.getD k default).id)) default).here)=true->(true&&decide ((k:Int)<(m.length:Int)))=true/\decide (0+Int.toNat (k:Int)<m.length)=true/\(vcRbL_q1 s m k)/\True/\(vcRbL_q2 s m k)/\true=true/\(vcRbL_q3 s m k)/\∃ j:Nat,m.length - j<m.length - k/\(((0=0/\(putL (both s m k) (m.getD k default)).length=(both s m j).length)/\(0=0/\m.length=m.length)/\IntKind.i64.wrap ((k:Int)+1)=(j:Int)/\True)/\(((putL (both s m k) (m.getD k default)).length=(both s m j).length/\contLe (putL (both s m k) (m.getD k default)).length 4 (cellsOf' encP (putL (both s m k) (m.getD k default))) (cellsOf' encP (both s m j)))/\(vcRbL_q4 m)/\True)/\true=true)/\true=true/\()=())/\((!((both s m k).getD (0+Int.toNat (idxZ (both s m k) (m.getD k default).id)) default).here)=false->∃ j:Nat,m.length - j<m.length - k/\(((0=0/\(both s m k).length=(both s m j).length)/\(0=0/\m.length=m.length)/\IntKind.i64.wrap ((k:Int)+1)=(j:Int)/\True)/\(((both s m k).length=(both s m j).length/\contLe (both s m k).length 4 (cellsOf' encP (both s m k)) (cellsOf' encP (both s m j)))/\(vcRbL_q4 m)/\True)/\true=true)/\true=true/\()=()))/\((m.getD (0+Int.toNat (k:Int)) default).here=false->∃ j:Nat,m.length - j<m.length - k/\(((0=0/\(both s m k).length=(both s m j).length)/\(0=0/\m.length=m.length)/\IntKind.i64.wrap ((k:Int)+1)=(j:Int)/\True)/\(((both s m k).length=(both s m j).length/\contLe (both s m k).length 4 (cellsOf' encP (both s m k)) (cellsOf' encP (both s m j)))/\(vcRbL_q4 m)/\True)/\true=true)/\true=true/\()=()))/\(((m.getD (0+Int.toNat (k:Int)) default).seq==((both s m k).getD (0+Int.toNat (idxZ (both s m k) (m.getD k default).id)) default).seq)=false->∃ j:Nat,m.length - j<m.length - k/\(((0=0/\(both s m k).length=(both s m j).length)/\(0=0/\m.length=m.length)/\IntKind.i64.wrap ((k:Int)+1)=(j:Int)/\True)/\(((both s m k).length=(both s m j).length/\contLe (both s m k).length 4 (cellsOf' encP (both s m k)) (cellsOf' encP (both s m j)))/\(vcRbL_q4 m)/\True)/\true=true)/\true=true/\()=()))))/\(decide ((k:Int)<(m.length:Int))=false->((0=0/\(both s m k).length=(both s m m.length).length)/\True)/\(((both s m k).length=(both s m m.length).length/\contLe (both s m k).length 4 (cellsOf' encP (both s m k)) (cellsOf' encP (both s m m.length)))/\True)/\true=true)
theorem vcRbL_eq (s:List Producer) (m:List Producer) (k:Nat):(loopVC Tryz.prog (rbH s m k) 37 8 (fun k=>m.length - k) (rbT s m) (boM s m) [0,1,2,3,4,5,6,7] (fun _=>.ret ()) (rbS s m) k)=vcRbL s m k:=by kernel_rfl
theorem rb_loop (s m:List Producer) (hs:rising s) (h1:s.length<=256) (h2:m.length<=256) (k:Nat):LoopOk Tryz.prog 37 8 (loopAt Tryz.prog 37 8) ⟨rbT s m k,boM s m k,[]⟩ (T.map (lout [0,1,2,3,4,5,6,7] (rbS s m)) (.ret ())):=by
 refine loop_vcH (o:=fun _=>.ret ()) Tryz.mixed (fun _=>rfl) (fun k=>(vcRbL_eq s m k).mpr ?_) k
 unfold vcRbL vcRbL_q4 vcRbL_q3 vcRbL_q2 vcRbL_q1
 simp
 have hinv:=both_inv (s:=s) (m:=m) hs k
 refine ⟨fun h=>?_,fun h=>?_⟩
 · have hst:=both_step (s:=s) (m:=m) h
   have hw:=wrap_i64 (n:=(k:Int)+1) (by omega) (by omega)
   rw [hw]
   have hr:=hinv.1
   unfold rising at hr
   simp only [List.getD_eq_getElem?_getD] at hr
   unfold bst at hst
   generalize m[k]?.getD default=x at *
   have goA:both s m (k+1)=putL (both s m k) x->_:=fun hst=>(show ∃ j,m.length - j<m.length - k/\((putL (both s m k) x).length=(both s m j).length/\(k:Int)+1=(j:Int))/\(putL (both s m k) x).length=(both s m j).length/\contLe (putL (both s m k) x).length 4 (cellsOf' encP (putL (both s m k) x)) (cellsOf' encP (both s m j)) from ⟨k+1,by omega,⟨by rw [hst],by omega⟩,by rw [hst],by rw [hst];exact contLe_refl _ _ _⟩)
   have goB:both s m (k+1)=both s m k->_:=fun hst=>(show ∃ j,m.length - j<m.length - k/\((both s m k).length=(both s m j).length/\(k:Int)+1=(j:Int))/\(both s m k).length=(both s m j).length/\contLe (both s m k).length 4 (cellsOf' encP (both s m k)) (cellsOf' encP (both s m j)) from ⟨k+1,by omega,⟨by rw [hst],by omega⟩,by rw [hst],by rw [hst];exact contLe_refl _ _ _⟩)
   by_cases hf:findI (both s m k) x.id=true
   · have h3:=idx_at hf
     have h4:=idx_lt hf
     simp [hf] at hst
     simp [idxZ,hf,h3]
     have ex:∃ x_1,x_1∈both s m k/\has x.id x_1=true:=by simpa [findI,List.find?_isSome] using hf
     repeat' first | exact ex | with_reducible apply And.intro | with_reducible intro _
     all_goals first
      | omega
      | exact hr _ _ (by assumption) (by assumption)
      | exact tag_encP _ _ _ (by assumption)
      | exact goA (by rw [hst,if_pos];simp only [lat];grind)
      | exact goB (by rw [hst,if_neg];simp only [lat];grind)
   · simp [hf] at hst
     simp [idxZ,hf]
     repeat' first | with_reducible apply And.intro | with_reducible intro _
     all_goals first
      | omega
      | exact hr _ _ (by assumption) (by assumption)
      | exact tag_encP _ _ _ (by assumption)
      | exact goA hst
 · rw [both_end h]
   exact ⟨rfl,contLe_refl _ _ _⟩
noncomputable def rbothH (b1 b2 b3 b4:Bool) (a b:List Producer) (ta tb:List Int):HintsT Tryz.prog :=
 hh _ (lp1 37 8 (jobOf (rbT (moveL a ta) (moveL b tb)) (boM (moveL a ta) (moveL b tb)) [0,1,2,3,4,5,6,7] (fun _=>.ret ()) (rbS (moveL a ta) (moveL b tb)) 0) noLp)
  (cs1 37 1 1 (tabN2 b1 a) (cs1 37 2 1 (tabN2 b2 b) (cs1 37 5 2 (rmoveN b1 b3 a ta) (cs1 37 6 2 (rmoveN b2 b4 b tb) noCs)))) noOp
def vcRbo (b1:Bool) (b2:Bool) (b3:Bool) (b4:Bool) (a:List Producer) (b:List Producer) (ta:List Int) (tb:List Int):Prop :=
 ((b1=b1/\a.length=a.length/\contLe a.length 4 (cellsOf' encP a) (cellsOf' encP a))/\True)/\True/\a.length<=9223372036854775806/\((b2=b2/\b.length=b.length/\contLe b.length 4 (cellsOf' encP b) (cellsOf' encP b))/\True)/\True/\b.length<=9223372036854775806/\((!isTable a)=true->((bothE a b ta tb==0)=true->(False/\(1:Int)=0/\True)/\False)/\((bothE a b ta tb==0)=false->(True/\1=bothE a b ta tb/\True)/\True))/\((!isTable a)=false->((!isTable b)=true->((bothE a b ta tb==0)=true->(False/\(1:Int)=0/\True)/\False)/\((bothE a b ta tb==0)=false->(True/\1=bothE a b ta tb/\True)/\True))/\((!isTable b)=false->((b1=b1/\a.length=a.length/\contLe a.length 4 (cellsOf' encP a) (cellsOf' encP a))/\(b3=b3/\ta.length=ta.length/\contLe ta.length 1 (cellsOf' encI ta) (cellsOf' encI ta))/\True)/\True/\(a.length*32<=140737488355200/\ta.length<=9223372036854775806/\∀ (x:Producer),x∈a->0<=x.offset/\x.offset<18446744073709551616)/\((b2=b2/\b.length=b.length/\contLe b.length 4 (cellsOf' encP b) (cellsOf' encP b))/\(b4=b4/\tb.length=tb.length/\contLe tb.length 1 (cellsOf' encI tb) (cellsOf' encI tb))/\True)/\True/\(b.length*32<=140737488355200/\tb.length<=9223372036854775806/\∀ (x:Producer),x∈b->0<=x.offset/\x.offset<18446744073709551616)/\(((0=0/\(moveL a ta).length=(both (moveL a ta) (moveL b tb) 0).length)/\(0=0/\(moveL b tb).length=(moveL b tb).length)/\(0:Int)=0/\True)/\(((moveL a ta).length=(both (moveL a ta) (moveL b tb) 0).length/\contLe (moveL a ta).length 4 (cellsOf' encP (moveL a ta)) (cellsOf' encP (both (moveL a ta) (moveL b tb) 0)))/\((moveL b tb).length=(moveL b tb).length/\contLe (moveL b tb).length 4 (cellsOf' encP (moveL b tb)) (cellsOf' encP (moveL b tb)))/\True)/\true=true)/\LoopOk Tryz.prog 37 8 (loopAt Tryz.prog 37 8) { t:=rbT (moveL a ta) (moveL b tb) 0,m:=boM (moveL a ta) (moveL b tb) 0,mv:=[]:St } (T.map (lout [0,1,2,3,4,5,6,7] (rbS (moveL a ta) (moveL b tb))) ((fun (x:Nat)=>T.ret ()) 0))/\(decide (256<((both (moveL a ta) (moveL b tb) (moveL b tb).length).length:Int))=true->((bothE a b ta tb==0)=true->(False/\(153:Int)=0/\True)/\False)/\((bothE a b ta tb==0)=false->(True/\153=bothE a b ta tb/\True)/\True))/\(decide (256<((both (moveL a ta) (moveL b tb) (moveL b tb).length).length:Int))=false->((bothE a b ta tb==0)=true->((0=0/\(both (moveL a ta) (moveL b tb) (moveL b tb).length).length=(bothL a b ta tb).length)/\(0:Int)=0/\True)/\((both (moveL a ta) (moveL b tb) (moveL b tb).length).length=(bothL a b ta tb).length/\contLe (both (moveL a ta) (moveL b tb) (moveL b tb).length).length 4 (cellsOf' encP (both (moveL a ta) (moveL b tb) (moveL b tb).length)) (cellsOf' encP (bothL a b ta tb)))/\True)/\((bothE a b ta tb==0)=false->False))))
theorem vcRbo_eq (b1:Bool) (b2:Bool) (b3:Bool) (b4:Bool) (a:List Producer) (b:List Producer) (ta:List Int) (tb:List Int):(ctrVC Tryz.prog (rbothH b1 b2 b3 b4 a b ta tb) 37 [encPs b1 a,encPs b2 b,encU b3 ta,encU b4 tb] [] (rowE (bothL a b ta tb) (bothE a b ta tb)))=vcRbo b1 b2 b3 b4 a b ta tb:=by kernel_rfl
theorem rboth_c (b1 b2 b3 b4:Bool) (a b:List Producer) (ta tb:List Int) (h1:a.length*32<=140737488355200) (h2:b.length*32<=140737488355200) (h3:ta.length<=9223372036854775806) (h4:tb.length<=9223372036854775806) (ha:∀ x∈a,0<=x.offset/\x.offset<18446744073709551616) (hb:∀ x∈b,0<=x.offset/\x.offset<18446744073709551616):(rowE (bothL a b ta tb) (bothE a b ta tb)).Sat (ACall' Tryz.prog 37 [encPs b1 a,encPs b2 b,encU b3 ta,encU b4 tb] []):=by
 refine ctr_vc (ht:=rbothH b1 b2 b3 b4 a b ta tb) Tryz.mixed rfl ?_
 rw [vcRbo_eq b1 b2 b3 b4 a b ta tb]
 unfold vcRbo
 have hA:isTable a=true->a.length<=256:=by unfold isTable;simp
 have hB:isTable b=true->b.length<=256:=by unfold isTable;simp
 by_cases ht:isTable a=true
 · by_cases ht2:isTable b=true
   · have hL:=rb_loop (moveL a ta) (moveL b tb) (move_rising (table_rising ht)) (by simpa [moveL] using hA ht) (by simpa [moveL] using hB ht2) 0
     simp [bothE,bothL,ht,ht2]
     refine ⟨by omega,by omega,⟨h1,h3,ha⟩,⟨h2,h4,hb⟩,⟨rfl,contLe_refl _ _ _⟩,hL,fun h=>?_,fun h=>?_⟩
     · have:256<(both (moveL a ta) (moveL b tb) (moveL b tb).length).length:=by omega
       simp [this]
     · have:¬ 256<(both (moveL a ta) (moveL b tb) (moveL b tb).length).length:=by omega
       simp [this]
   · simp [bothE,ht,ht2]
     omega
 · simp [bothE,ht]
   omega
end Go.Proofs.YtckklclehofddaaGreatDoor.P

namespace Go.Proofs.YtckklclehofddaaGreatDoor
open Go.Ax
set_option maxRecDepth 1000000
structure Part where
 rng:Rng
 epoch:Int
 frozen:Int
 recs:List Rec
 prods:List P.Producer
 cons:List Con
instance:Inhabited Part:=⟨⟨default,0,0,[],[],[]⟩⟩
def encPt (b:Bool) (p:Part):List AV:=[.y (.string p.rng.lo),.y (.string p.rng.hi),.y (.int .u64 p.epoch),.y (.int .u64 p.frozen),encRs b p.recs,P.encPs b p.prods,encCs b p.cons]
def ptLe (x y:Bool) (p q:Part):Prop:=p.rng.lo=q.rng.lo/\p.rng.hi=q.rng.hi/\p.epoch=q.epoch/\p.frozen=q.frozen/\(x=y/\List.length p.recs=List.length q.recs/\contLe (List.length p.recs) (5:Nat) (cellsOf' encR p.recs) (cellsOf' encR q.recs))/\(x=y/\List.length p.prods=List.length q.prods/\contLe (List.length p.prods) (4:Nat) (cellsOf' P.encP p.prods) (cellsOf' P.encP q.prods))/\(x=y/\List.length p.cons=List.length q.cons/\contLe (List.length p.cons) (2:Nat) (cellsOf' encC p.cons) (cellsOf' encC q.cons))/\True
@[simp] theorem ptLe_eq (x y:Bool) (p q:Part):ptLe x y p q=(p.rng.lo=q.rng.lo/\p.rng.hi=q.rng.hi/\p.epoch=q.epoch/\p.frozen=q.frozen/\(x=y/\List.length p.recs=List.length q.recs/\contLe (List.length p.recs) (5:Nat) (cellsOf' encR p.recs) (cellsOf' encR q.recs))/\(x=y/\List.length p.prods=List.length q.prods/\contLe (List.length p.prods) (4:Nat) (cellsOf' P.encP p.prods) (cellsOf' P.encP q.prods))/\(x=y/\List.length p.cons=List.length q.cons/\contLe (List.length p.cons) (2:Nat) (cellsOf' encC p.cons) (cellsOf' encC q.cons))/\True):=rfl
abbrev Kn:=(Int->Bool)×(Int->Int)
abbrev Kn.put (s:Kn) (a b:Int):Kn:=(updHas s.1 a,updC s.2 a b)
abbrev Kn.sel (s:Kn) (a:Int):Int:=selI (s.1 a) (s.2 a)
def kn0:Kn:=(fun _=>false,fun _=>0)
def knP (l:List P.Producer):Kn:=l.foldl (fun s x=>s.put x.id x.seq) kn0
def knR (l:List Rec):Kn:=l.foldl (fun s x=>s.put x.prod x.seq) kn0
theorem knP_step {l:List P.Producer} {k:Nat} (h:k<l.length):knP (l.take (k+1))=(knP (l.take k)).put (l.getD k default).id (l.getD k default).seq:=by
 unfold knP
 rw [List.take_add_one,List.foldl_append,List.getElem?_eq_getElem h]
 simp [List.getElem?_eq_getElem h]
theorem knR_step {l:List Rec} {k:Nat} (h:k<l.length):knR (l.take (k+1))=(knR (l.take k)).put (l.getD k default).prod (l.getD k default).seq:=by
 unfold knR
 rw [List.take_add_one,List.foldl_append,List.getElem?_eq_getElem h]
 simp [List.getElem?_eq_getElem h]
def mapB (s:Kn):Blk:=.mi .u64 .u64 s.1 s.2
def orM1 (b:Bool) (p:Part) (s:Kn):List Blk:=[.box 30 (encPt b p),mapB s]
def orT1 (b:Bool) (p:Part) (k:Nat):List AV:=mkT 61 [(1,.ptr 0 0 0 0),(3,.mref 1),(11,P.encPs b p.prods),(12,.y (.int .i64 p.prods.length)),(13,.y (.int .i64 k))]
def orS1 (b:Bool) (p:Part) (_:Unit):Exit×List AV×List Blk:=(.exit 0,mkT 61 [(1,.ptr 0 0 0 0),(3,.mref 1)],orM1 b p (knP p.prods))
def jX9:List Nat:=[0,1,2,3,4,5,6,7,8,9]
def vcOr1 (b:Bool) (p:Part) (k:Nat):Prop :=
 (decide ((k:Int)<(p.prods.length:Int))=true->(true&&decide ((k:Int)<(p.prods.length:Int)))=true/\∃ j:Nat,p.prods.length - j<p.prods.length - k/\(((0=0/\0=0)/\True/\(b=b/\p.prods.length=p.prods.length/\contLe p.prods.length 4 (cellsOf' P.encP p.prods) (cellsOf' P.encP p.prods))/\(p.prods.length:Int)=(p.prods.length:Int)/\IntKind.i64.wrap ((k:Int)+1)=(j:Int)/\True)/\((ptLe b b p p)/\(IntKind.u64=IntKind.u64/\IntKind.u64=IntKind.u64/\∀ (x:Int),updHas (knP (List.take k p.prods)).fst (p.prods.getD (Int.toNat (k:Int)) default).id x=(knP (List.take j p.prods)).fst x/\(updHas (knP (List.take k p.prods)).fst (p.prods.getD (Int.toNat (k:Int)) default).id x=true->updC (knP (List.take k p.prods)).snd (p.prods.getD (Int.toNat (k:Int)) default).id (p.prods.getD (Int.toNat (k:Int)) default).seq x=(knP (List.take j p.prods)).snd x))/\True)/\true=true)/\true=true/\()=())/\(decide ((k:Int)<(p.prods.length:Int))=false->((0=0/\0=0)/\True/\True)/\((ptLe b b p p)/\(IntKind.u64=IntKind.u64/\IntKind.u64=IntKind.u64/\∀ (x:Int),(knP (List.take k p.prods)).fst x=(knP p.prods).fst x/\((knP (List.take k p.prods)).fst x=true->(knP (List.take k p.prods)).snd x=(knP p.prods).snd x))/\True)/\true=true)
theorem vcOr1_eq (b:Bool) (p:Part) (k:Nat):(loopVC Tryz.prog (hT _) 45 3 (fun k=>p.prods.length - k) (orT1 b p) (fun k=>orM1 b p (knP (p.prods.take k))) jX9 (fun _=>.ret ()) (orS1 b p) k)=vcOr1 b p k:=by kernel_rfl
def orM2 (b:Bool) (p:Part) (k:Nat):List Blk:=[.box 30 (encPt b p),mapB (knP p.prods),mapB (knR (p.recs.take k))]
def orT2 (b:Bool) (p:Part) (k:Nat):List AV:=mkT 61 [(1,.ptr 0 0 0 0),(3,.mref 1),(6,.mref 2),(25,encRs b p.recs),(26,.y (.int .i64 p.recs.length)),(27,.y (.int .i64 k))]
def orS2 (r:Bool):Exit×List AV×List Blk:=match r with
 | true=>(.exit 2,mkT 61 [],[])
 | false=>(.ret,mkT 61 [(2,.s (.bool false))],[])
def okO (p:Part) (k:Nat):Bool :=
 let x:=p.recs.getD k default
 hasK p.rng x.key&&(!decide (x.seq<=(knR (p.recs.take k)).sel x.prod)&&!decide ((knP p.prods).sel x.prod<x.seq))
def orFrom (p:Part) (k:Nat):Bool:=(List.range' k (p.recs.length - k)).all fun j=>okO p j
theorem orFrom_end {p:Part} {k:Nat} (h:p.recs.length<=k):orFrom p k=true:=by
 unfold orFrom
 rw [show p.recs.length - k=0 by omega];rfl
theorem orFrom_step {p:Part} {k:Nat} (h:k<p.recs.length):orFrom p k=(okO p k&&orFrom p (k+1)):=by
 unfold orFrom
 rw [show p.recs.length - k=(p.recs.length - (k+1))+1 by omega,List.range'_succ];rfl
def orO (p:Part) (k:Nat):T Bool:=.ite (orFrom p k) (.ret true) (.ret false)
noncomputable def orH2 (p:Part) (k:Nat):HintsT Tryz.prog:=hh _ noLp (cs1 45 11 4 (hasC p.rng (p.recs.getD k default).key) noCs) noOp
def vcOr2 (b:Bool) (p:Part) (k:Nat):Prop :=
 (decide ((k:Int)<(p.recs.length:Int))=true->(true&&decide ((k:Int)<(p.recs.length:Int)))=true/\((p.rng.lo=p.rng.lo/\p.rng.hi=p.rng.hi/\True)/\(p.recs.getD (Int.toNat (k:Int)) default).key=(p.recs.getD k default).key/\True)/\True/\((!hasK p.rng (p.recs.getD k default).key)=true->(orFrom p k=true->False)/\(orFrom p k=false->(false=false/\True)/\True/\true=true))/\((!hasK p.rng (p.recs.getD k default).key)=false->(decide ((p.recs.getD (Int.toNat (k:Int)) default).seq<=selI ((knR (List.take k p.recs)).fst (p.recs.getD (Int.toNat (k:Int)) default).prod) ((knR (List.take k p.recs)).snd (p.recs.getD (Int.toNat (k:Int)) default).prod))=true->(orFrom p k=true->False)/\(orFrom p k=false->(false=false/\True)/\True/\true=true))/\(decide ((p.recs.getD (Int.toNat (k:Int)) default).seq<=selI ((knR (List.take k p.recs)).fst (p.recs.getD (Int.toNat (k:Int)) default).prod) ((knR (List.take k p.recs)).snd (p.recs.getD (Int.toNat (k:Int)) default).prod))=false->(decide (selI ((knP p.prods).fst (p.recs.getD (Int.toNat (k:Int)) default).prod) ((knP p.prods).snd (p.recs.getD (Int.toNat (k:Int)) default).prod)<(p.recs.getD (Int.toNat (k:Int)) default).seq)=true->(orFrom p k=true->False)/\(orFrom p k=false->(false=false/\True)/\True/\true=true))/\(decide (selI ((knP p.prods).fst (p.recs.getD (Int.toNat (k:Int)) default).prod) ((knP p.prods).snd (p.recs.getD (Int.toNat (k:Int)) default).prod)<(p.recs.getD (Int.toNat (k:Int)) default).seq)=false->∃ j:Nat,p.recs.length - j<p.recs.length - k/\(((0=0/\0=0)/\True/\True/\(b=b/\p.recs.length=p.recs.length/\contLe p.recs.length 5 (cellsOf' encR p.recs) (cellsOf' encR p.recs))/\(p.recs.length:Int)=(p.recs.length:Int)/\IntKind.i64.wrap ((k:Int)+1)=(j:Int)/\True)/\((ptLe b b p p)/\(IntKind.u64=IntKind.u64/\IntKind.u64=IntKind.u64/\∀ (x:Int),(knP p.prods).fst x=(knP p.prods).fst x/\((knP p.prods).fst x=true->(knP p.prods).snd x=(knP p.prods).snd x))/\(IntKind.u64=IntKind.u64/\IntKind.u64=IntKind.u64/\∀ (x:Int),updHas (knR (List.take k p.recs)).fst (p.recs.getD (Int.toNat (k:Int)) default).prod x=(knR (List.take j p.recs)).fst x/\(updHas (knR (List.take k p.recs)).fst (p.recs.getD (Int.toNat (k:Int)) default).prod x=true->updC (knR (List.take k p.recs)).snd (p.recs.getD (Int.toNat (k:Int)) default).prod (p.recs.getD (Int.toNat (k:Int)) default).seq x=(knR (List.take j p.recs)).snd x))/\True)/\true=true)/\true=true/\(orFrom p j=true->(orFrom p k=true->true=true)/\(orFrom p k=false->true=false))/\(orFrom p j=false->(orFrom p k=true->false=true)/\(orFrom p k=false->false=false))))))/\(decide ((k:Int)<(p.recs.length:Int))=false->(orFrom p k=true->True/\True/\true=true)/\(orFrom p k=false->False))
theorem vcOr2_eq (b:Bool) (p:Part) (k:Nat):(loopVC Tryz.prog (orH2 p k) 45 9 (fun k=>p.recs.length - k) (orT2 b p) (orM2 b p) jX9 (orO p) orS2 k)=vcOr2 b p k:=by kernel_rfl
noncomputable def orH (b:Bool) (p:Part):HintsT Tryz.prog:=hh _ (lp1 45 3 (jobOf (orT1 b p) (fun k=>orM1 b p (knP (p.prods.take k))) jX9 (fun _=>.ret ()) (orS1 b p) 0) (lp1 45 9 (jobOf (orT2 b p) (orM2 b p) jX9 (orO p) orS2 0) noLp)) noCs noOp
def vcOr (b:Bool) (p:Part):Prop :=
 (((0=0/\0=0)/\True/\(b=b/\p.prods.length=p.prods.length/\contLe p.prods.length 4 (cellsOf' P.encP p.prods) (cellsOf' P.encP p.prods))/\(p.prods.length:Int)=(p.prods.length:Int)/\(0:Int)=0/\True)/\((ptLe b b p p)/\(∀ (x:Int),false=false)/\True)/\true=true)/\LoopOk Tryz.prog 45 3 (loopAt Tryz.prog 45 3) { t:=orT1 b p 0,m:=orM1 b p (knP (List.take 0 p.prods)),mv:=[]:St } (T.map (lout jX9 (orS1 b p)) ((fun (x:Nat)=>T.ret ()) 0))/\(((0=0/\0=0)/\True/\True/\(b=b/\p.recs.length=p.recs.length/\contLe p.recs.length 5 (cellsOf' encR p.recs) (cellsOf' encR p.recs))/\(p.recs.length:Int)=(p.recs.length:Int)/\(0:Int)=0/\True)/\((ptLe b b p p)/\(IntKind.u64=IntKind.u64/\IntKind.u64=IntKind.u64/\∀ (x:Int),(knP p.prods).fst x=(knP p.prods).fst x/\((knP p.prods).fst x=true->(knP p.prods).snd x=(knP p.prods).snd x))/\(∀ (x:Int),false=false)/\True)/\true=true)/\LoopOk Tryz.prog 45 9 (loopAt Tryz.prog 45 9) { t:=orT2 b p 0,m:=orM2 b p 0,mv:=[]:St } (T.map (lout jX9 orS2) (orO p 0))/\(orFrom p 0=true->true=orFrom p 0/\True)/\(orFrom p 0=false->false=orFrom p 0/\True)
theorem vcOr_eq (b:Bool) (p:Part):(ctrVC Tryz.prog (orH b p) 45 [.agg (encPt b p)] [] (boolR (orFrom p 0)))=vcOr b p:=by kernel_rfl
end Go.Proofs.YtckklclehofddaaGreatDoor

namespace Go.Proofs.YtckklclehofddaaGreatDoor
open Go.Ax
set_option maxRecDepth 1000000
theorem or1_loop (b:Bool) (p:Part) (hl:p.prods.length<=9223372036854775806) (k:Nat):LoopOk Tryz.prog 45 3 (loopAt Tryz.prog 45 3) ⟨orT1 b p k,orM1 b p (knP (p.prods.take k)),[]⟩ (T.map (lout jX9 (orS1 b p)) (.ret ())):=by
 refine loop_vc (o:=fun _=>.ret ()) (stT:=fun k=>orT1 b p k) (stM:=fun k=>orM1 b p (knP (p.prods.take k))) Tryz.mixed (fun _=>rfl) (fun k=>(vcOr1_eq b p k).mpr ?_) k
 unfold vcOr1
 by_cases h:k<p.prods.length
 · have hw:IntKind.i64.wrap ((k:Int)+1)=((k+1:Nat):Int):=by rw [wrap_i64 (by omega) (by omega)];omega
   have hs:=knP_step h
   have hz:decide ((k:Int)<p.prods.length)=true:=by simp;omega
   rw [Int.toNat_natCast]
   simp only [hz]
   generalize p.prods.getD k default=x at *
   generalize knP (p.prods.take k)=s at *
   simp
   refine Exists.intro (k+1) ?_
   rw [hs]
   refine ⟨by omega,hw,fun y=>⟨rfl,fun _=>rfl⟩⟩
 · have hz:decide ((k:Int)<p.prods.length)=false:=by simp;omega
   rw [List.take_of_length_le (by omega)]
   simp [hz]
   exact fun e=>absurd e h
theorem or2_loop (b:Bool) (p:Part) (hl:p.recs.length<=9223372036854775806) (k:Nat):LoopOk Tryz.prog 45 9 (loopAt Tryz.prog 45 9) ⟨orT2 b p k,orM2 b p k,[]⟩ ((orO p k).map (lout jX9 orS2)):=by
 refine loop_vcH (o:=orO p) (stT:=orT2 b p) (stM:=orM2 b p) Tryz.mixed (fun _=>rfl) (fun k=>(vcOr2_eq b p k).mpr ?_) k
 unfold vcOr2
 by_cases h:k<p.recs.length
 · have hw:IntKind.i64.wrap ((k:Int)+1)=((k+1:Nat):Int):=by rw [wrap_i64 (by omega) (by omega)];omega
   have hs:=knR_step h
   have hf:=orFrom_step h
   have hz:decide ((k:Int)<p.recs.length)=true:=by simp;omega
   have ho:okO p k=(hasK p.rng (p.recs.getD k default).key&&(!decide ((p.recs.getD k default).seq<=(knR (p.recs.take k)).sel (p.recs.getD k default).prod)&&!decide ((knP p.prods).sel (p.recs.getD k default).prod<(p.recs.getD k default).seq))):=rfl
   rw [Int.toNat_natCast]
   simp only [hz,hf,ho]
   generalize p.recs.getD k default=x at *
   generalize knR (p.recs.take k)=s at *
   cases h1:hasK p.rng x.key
   · simp
   · by_cases h2:x.seq<=s.sel x.prod
     · simp [h2]
     · by_cases h3:(knP p.prods).sel x.prod<x.seq
       · simp [h2,h3]
       · simp [h2,h3]
         refine Exists.intro (k+1) ?_
         rw [hs]
         refine ⟨by omega,⟨hw,fun y=>⟨rfl,fun _=>rfl⟩⟩,?_⟩
         cases orFrom p (k+1)<;>simp
 · have hz:decide ((k:Int)<p.recs.length)=false:=by simp;omega
   simp only [hz,orFrom_end (p:=p) (k:=k) (by omega)]
   simp
theorem or_c (b:Bool) (p:Part) (h1:p.prods.length<=9223372036854775806) (h2:p.recs.length<=9223372036854775806):(boolR (orFrom p 0)).Sat (ACall' Tryz.prog 45 [.agg (encPt b p)] []):=by
 refine ctr_vc (ht:=orH b p) Tryz.mixed rfl ?_
 rw [vcOr_eq b p]
 unfold vcOr
 have l1:=or1_loop b p h1 0
 have l2:=or2_loop b p h2 0
 rw [List.take_zero] at l1
 simp [l1,l2]
noncomputable def orC (b:Bool) (p:Part):Ctr Tryz.prog:=⟨45,[.agg (encPt b p)],[],.need (p.prods.length<=9223372036854775806/\p.recs.length<=9223372036854775806) (boolR (orFrom p 0)),T.Sat.need fun h=>or_c b p h.1 h.2⟩
end Go.Proofs.YtckklclehofddaaGreatDoor
