import Derived.Shelf.Strings.SlTrimAscii
import Derived.Test.YtckklclehofddaaGreatDoorE12
import Derived.Test.YtckklclehofddaaGreatDoorW1
set_option linter.unusedVariables false
set_option linter.unusedSimpArgs false
set_option linter.unusedSectionVars false
namespace Go.Proofs.YtckklclehofddaaGreatDoor
open Go.Ax
set_option maxRecDepth 1000000
theorem k_loop (b1 b2:Bool) (s:{ s:Jo // s.Ok }):LoopOk Tryz.prog 36 10 (loopAt Tryz.prog 36 10) ⟨kT b1 b2 s.1,kM s.1,[]⟩ ((jO s.1).map (lout jX (kS b1 b2))):=by
 refine loop_vcH (o:=fun (s:{ s:Jo // s.Ok })=>jO s.1) Tryz.mixed (fun _=>rfl) (fun s=>(vcK_eq b1 b2 s).mpr ?_) s
 unfold vcK vcK_q5 vcK_q2 vcK_q3 vcK_q1 vcK_q4
 obtain ⟨s,hs⟩:=s
 have hn:=hs.n
 have hta:=hs.ta
 have htb:=hs.tb
 have hw:IntKind.i64.wrap ((s.a.length:Int)+s.b.length)=(s.a.length:Int)+s.b.length:=wrap_i64 (by omega) (by omega)
 simp only [hdE,hw]
 rcases Nat.eq_zero_or_pos (s.a.length+s.b.length) with h0 | h0
 · have ha:s.a=[]:=List.length_eq_zero_iff.1 (by omega)
   have hb:s.b=[]:=List.length_eq_zero_iff.1 (by omega)
   simp [run_end h0,ha,hb]
 have hz2:(0:Int)<(s.a.length:Int)+s.b.length:=by omega
 cases hA:s.tA
 · cases hB:s.tB
   · have hr:=run_no hA hB h0
     have h1:s.a=[]∨lowR s.b (hd s.a)=true:=by unfold Jo.tA at hA;cases ha:s.a<;>simp [ha] at hA ⊢;exact hA
     have h2:s.b=[]∨lowR s.a (hd s.b)=true:=by unfold Jo.tB at hB;cases hb:s.b<;>simp [hb] at hB ⊢;exact hB
     rcases Nat.eq_zero_or_pos s.a.length with ha | ha
     · have ha':s.a=[]:=List.length_eq_zero_iff.1 ha
       have hb:0<s.b.length:=by omega
       have hbn:s.b≠[]:=List.ne_nil_of_length_pos hb
       rw [ha'] at h2
       simp [lowR,hbn] at h2
     · have han:s.a≠[]:=List.ne_nil_of_length_pos ha
       have hl:=h1.resolve_left han
       rcases Nat.eq_zero_or_pos s.b.length with hb | hb
       · have hb':s.b=[]:=List.length_eq_zero_iff.1 hb
         rw [hb'] at hl
         simp [lowR] at hl
       · have hbn:s.b≠[]:=List.ne_nil_of_length_pos hb
         have hl2:=h2.resolve_left hbn
         have ha2:(0:Int)<s.a.length:=by omega
         have hb2:(0:Int)<s.b.length:=by omega
         simp [hz2,han,hbn,ha,hb,ha2,hb2,hl,hl2,hr]
         omega
   · have hne:s.b≠[]:=by unfold Jo.tB at hB;intro e;rw [e] at hB;simp at hB
     have hpos:0<s.b.length:=List.length_pos_iff.2 hne
     have hlow:lowR s.a (hd s.b)=false:=by unfold Jo.tB at hB;simp at hB;exact hB.2
     have h256:(hd s.b).val.length<=256:=hs.b _ (hd_mem hpos)
     have hok:=ok_B hs hB
     have hrun:=run_B hA hB
     have hz1:(1:Int)<=s.b.length:=by omega
     have hb2:(0:Int)<s.b.length:=by omega
     have h1:s.a=[]∨lowR s.b (hd s.a)=true:=by unfold Jo.tA at hA;cases ha:s.a<;>simp [ha] at hA ⊢;exact hA
     rcases Nat.eq_zero_or_pos s.a.length with ha | ha
     · have ha':s.a=[]:=List.length_eq_zero_iff.1 ha
       have hla:lowR ([]:List Rec) (hd s.b)=false:=rfl
       simp [hz1,hz2,hb2,hlow,hla,hpos,hrun,hne,ha']
       refine ⟨⟨by omega,by omega⟩,by omega,⟨by omega,by omega⟩,s.goB,?_⟩
       repeat' with_reducible apply And.intro
       all_goals first
        | omega
        | exact contLe_refl _ _ _
        | (simp [Jo.goB,ha'];done)
        | (simp [Jo.goB,ha'];omega)
        | exact app1_le1 (le0_refl _)
        | exact tail_le _ _
        | exact app1_le rfl (rec_le (le0_refl _) (le0_refl _) (le0_refl _) (le0_refl _) (le0_refl _))
        | exact hok
        | exact fun h1=>⟨fun _=>getD_any _ _ _ h1,fun h2=>by rw [h2] at h1;cases h1⟩
     · have han:s.a≠[]:=List.ne_nil_of_length_pos ha
       have hl:=h1.resolve_left han
       have ha2:(0:Int)<s.a.length:=by omega
       simp [hz1,hz2,hb2,ha2,hlow,hpos,hrun,hne,han,ha,hl]
       refine ⟨by omega,by omega,⟨by omega,by omega⟩,by omega,⟨by omega,by omega⟩,s.goB,?_⟩
       repeat' with_reducible apply And.intro
       all_goals first
        | omega
        | exact contLe_refl _ _ _
        | (simp [Jo.goB];done)
        | (simp [Jo.goB];omega)
        | exact app1_le1 (le0_refl _)
        | exact tail_le _ _
        | exact app1_le rfl (rec_le (le0_refl _) (le0_refl _) (le0_refl _) (le0_refl _) (le0_refl _))
        | exact hok
        | exact fun h1=>⟨fun _=>getD_any _ _ _ h1,fun h2=>by rw [h2] at h1;cases h1⟩
 · have hne:s.a≠[]:=by unfold Jo.tA at hA;intro e;rw [e] at hA;simp at hA
   have hpos:0<s.a.length:=List.length_pos_iff.2 hne
   have hlow:lowR s.b (hd s.a)=false:=by unfold Jo.tA at hA;simp at hA;exact hA.2
   have h256:(hd s.a).val.length<=256:=hs.a _ (hd_mem hpos)
   have hok:=ok_A hs hA
   have hrun:=run_A hA
   have hz1:(1:Int)<=s.a.length:=by omega
   have ha2:(0:Int)<s.a.length:=by omega
   simp [ha2,hz1,hz2,hlow,hpos,hrun,hne]
   refine ⟨by omega,⟨by omega,by omega⟩,by omega,⟨by omega,by omega⟩,s.goA,?_⟩
   repeat' with_reducible apply And.intro
   all_goals first
    | omega
    | exact contLe_refl _ _ _
    | (simp [Jo.goA];done)
    | (simp [Jo.goA];omega)
    | exact app1_le1 (le0_refl _)
    | exact tail_le _ _
    | exact app1_le rfl (rec_le (le0_refl _) (le0_refl _) (le0_refl _) (le0_refl _) (le0_refl _))
    | exact hok
    | exact fun h1=>⟨fun _=>getD_any _ _ _ h1,fun h2=>by rw [h2] at h1;cases h1⟩
theorem log_ok {a b:List Rec} (ha:isLog a=true) (hb:isLog b=true) (hn:a.length+b.length<=4096):(jo0 a b).Ok:=by
 have key:∀ l:List Rec,isLog l=true->∀ x∈l,x.val.length<=256:=by
  intro l hl x hx
  obtain ⟨k,hk,rfl⟩:=List.getElem_of_mem hx
  simp only [isLog,Bool.and_eq_true] at hl
  have h:=hl.1
  unfold logFrom at h
  rw [List.all_eq_true] at h
  have h2:=h k (by simp;omega)
  simp [okR,hk] at h2
  exact h2.2.2
 exact ⟨key a ha,key b hb,by simp [jo0];omega,by simp [jo0],by simp [jo0]⟩
theorem run_ok:∀ (n:Nat) (s r:Jo),s.Ok->joinN n s=some r->s.a.length+s.b.length<=n->r.Ok/\r.out.length=s.out.length+(s.a.length+s.b.length)/\r.a=[]/\r.b=[]
 | 0,s,r,hs,h,hn=>by
   simp only [joinN] at h
   cases h
   have ha:s.a=[]:=List.length_eq_zero_iff.1 (by omega)
   have hb:s.b=[]:=List.length_eq_zero_iff.1 (by omega)
   exact ⟨hs,by simp [ha,hb],ha,hb⟩
 | n+1,s,r,hs,h,hn=>by
   simp only [joinN] at h
   split at h
   · rename_i hA
     have hne:s.a≠[]:=by unfold Jo.tA at hA;intro e;rw [e] at hA;simp at hA
     obtain ⟨x,q,hx⟩:=List.exists_cons_of_ne_nil hne
     obtain ⟨h1,h2,h3⟩:=run_ok n _ r (ok_A hs hA) h (by simp [Jo.goA,hx] at hn ⊢;omega)
     refine ⟨h1,?_,h3⟩
     rw [h2]
     simp [Jo.goA,hx];omega
   · split at h
     · rename_i hB
       have hne:s.b≠[]:=by unfold Jo.tB at hB;intro e;rw [e] at hB;simp at hB
       obtain ⟨x,q,hx⟩:=List.exists_cons_of_ne_nil hne
       obtain ⟨h1,h2,h3⟩:=run_ok n _ r (ok_B hs hB) h (by simp [Jo.goB,hx] at hn ⊢;omega)
       refine ⟨h1,?_,h3⟩
       rw [h2]
       simp [Jo.goB,hx];omega
     · cases h
theorem fin_ok {a b:List Rec} (hok:(jo0 a b).Ok) {r:Jo} (hr:(jo0 a b).run=some r) (h1:a.length<=4611686018427387903) (h2:b.length<=4611686018427387903):a.length<=9223372036854775806 /\
 b.length<=9223372036854775806 /\
  (r.ta.length<=9223372036854775806/\(r.ta.length+1)*8<=140737488355328) /\
    (r.tb.length<=9223372036854775806/\(r.tb.length+1)*8<=140737488355328) /\
      contLe (r.ta.length+1) 1
       (appRow r.ta.length (cellsOf' encU r.ta) fun k j =>
         Ax.get [AV.y (Value.int IntKind.u64 (IntKind.u64.wrap ↑r.out.length))] (k+j))
       (cellsOf' encU (r.ta++[r.at])) /\
       contLe (r.tb.length+1) 1
        (appRow r.tb.length (cellsOf' encU r.tb) fun k j =>
          Ax.get [AV.y (Value.int IntKind.u64 (IntKind.u64.wrap ↑r.out.length))] (k+j))
        (cellsOf' encU (r.tb++[r.at])):=by
 obtain ⟨ho,_⟩:=run_ok _ _ r hok hr (Nat.le_refl _)
 have:=ho.n
 have:=ho.ta
 have:=ho.tb
 exact ⟨by omega,by omega,⟨by omega,by omega⟩,⟨by omega,by omega⟩,app1_le1 (le0_refl _),app1_le1 (le0_refl _)⟩
theorem join_c (b1 b2:Bool) (a b:List Rec) (h1:a.length<=4611686018427387903) (h2:b.length<=4611686018427387903):(joinT a b).Sat (ACall' Tryz.prog 57 [encRs b1 a,encRs b2 b] []):=by
 refine ctr_vc (ht:=joH b1 b2 a b) Tryz.mixed rfl ?_
 rw [vcJoin_eq b1 b2 a b]
 unfold vcJoin vcJoin_q1
 have hw:IntKind.i64.wrap ((a.length:Int)+b.length)=(a.length:Int)+b.length:=wrap_i64 (by omega) (by omega)
 simp only [hw]
 cases ha:isLog a
 · simp;omega
 · cases hb:isLog b
   · simp;omega
   · by_cases hn:a.length+b.length<=4096
     · have hok:=log_ok ha hb hn
       have lp:=j_loop b1 b2 ⟨_,hok⟩
       have hn2:¬ ((4096:Int)<(a.length:Int)+b.length):=by omega
       cases hr:(jo0 a b).run with
       | none => 
         simp [hn,hn2,lp,hr]
         omega
       | some r =>
         simp [hn,hn2,lp,hr]
         exact fin_ok hok hr h1 h2
     · have hn2:(4096:Int)<(a.length:Int)+b.length:=by omega
       simp [hn,hn2]
       omega
theorem joinr_c (b1 b2:Bool) (a b:List Rec) (h1:a.length<=4611686018427387903) (h2:b.length<=4611686018427387903):(joinT a b).Sat (ACall' Tryz.prog 36 [encRs b1 a,encRs b2 b] []):=by
 refine ctr_vc (ht:=koH b1 b2 a b) Tryz.mixed rfl ?_
 rw [vcJoinR_eq b1 b2 a b]
 unfold vcJoinR vcJoinR_q1
 have hw:IntKind.i64.wrap ((a.length:Int)+b.length)=(a.length:Int)+b.length:=wrap_i64 (by omega) (by omega)
 simp only [hw]
 cases ha:isLog a
 · simp;omega
 · cases hb:isLog b
   · simp;omega
   · by_cases hn:a.length+b.length<=4096
     · have hok:=log_ok ha hb hn
       have lp:=k_loop b1 b2 ⟨_,hok⟩
       have hn2:¬ ((4096:Int)<(a.length:Int)+b.length):=by omega
       cases hr:(jo0 a b).run with
       | none => 
         simp [hn,hn2,lp,hr]
         omega
       | some r =>
         simp [hn,hn2,lp,hr]
         exact fin_ok hok hr h1 h2
     · have hn2:(4096:Int)<(a.length:Int)+b.length:=by omega
       simp [hn,hn2]
       omega
end Go.Proofs.YtckklclehofddaaGreatDoor

namespace Go.Proofs
open Go.Shelf
def Tryz.lays160_ren:Go.Shelf.Ren:=⟨fun | 160=>95 | 232=>112 | 231=>111 | 227=>113 | 234=>115 | 233=>114 | 236=>117 | 235=>116 | 228=>125 | 271=>128 | 151=>127 | 197=>126 | 120=>133 | 152=>132 | 260=>131 | 137=>136 | 119=>137 | 224=>138 | 225=>139 | 217=>140 | 266=>141 | n=>n,fun | 9=>9 | 4=>4 | 3=>3 | 5=>5 | 117=>162 | 116=>161 | 0=>0 | 124=>165 | 21=>21 | 105=>170 | 46=>104 | 119=>176 | 139=>179 | 138=>178 | n=>n,fun | 3=>0 | 4=>1 | n=>n⟩
theorem Tryz.lays160:Go.Proofs.Lays.n160 Tryz.prog Tryz.lays160_ren:={
 mixed:=by kernel_rfl
 f119:=Tryz.func137.trans (congrArg some (by kernel_rfl))
 f120:=Tryz.func133.trans (congrArg some (by kernel_rfl))
 f137:=Tryz.func136.trans (congrArg some (by kernel_rfl))
 f151:=Tryz.func127.trans (congrArg some (by kernel_rfl))
 f152:=Tryz.func132.trans (congrArg some (by kernel_rfl))
 f160:=Tryz.func95.trans (congrArg some (by kernel_rfl))
 f197:=Tryz.func126.trans (congrArg some (by kernel_rfl))
 f217:=Tryz.func140.trans (congrArg some (by kernel_rfl))
 f224:=Tryz.func138.trans (congrArg some (by kernel_rfl))
 f225:=Tryz.func139.trans (congrArg some (by kernel_rfl))
 f227:=Tryz.func113.trans (congrArg some (by kernel_rfl))
 f228:=Tryz.func125.trans (congrArg some (by kernel_rfl))
 f231:=Tryz.func111.trans (congrArg some (by kernel_rfl))
 f232:=Tryz.func112.trans (congrArg some (by kernel_rfl))
 f233:=Tryz.func114.trans (congrArg some (by kernel_rfl))
 f234:=Tryz.func115.trans (congrArg some (by kernel_rfl))
 f235:=Tryz.func116.trans (congrArg some (by kernel_rfl))
 f236:=Tryz.func117.trans (congrArg some (by kernel_rfl))
 f260:=Tryz.func131.trans (congrArg some (by kernel_rfl))
 f266:=Tryz.func141.trans (congrArg some (by kernel_rfl))
 f271:=Tryz.func128.trans (congrArg some (by kernel_rfl))
 t0:=Tryz.underlying0
 a0:=Tryz.isAgg0
 z0:=Tryz.sizeOf0
 v0:=Tryz.zeroValue0
 t3:=Tryz.underlying3
 a3:=Tryz.isAgg3
 z3:=Tryz.sizeOf3
 v3:=Tryz.zeroValue3
 t4:=Tryz.underlying4
 a4:=Tryz.isAgg4
 z4:=Tryz.sizeOf4
 v4:=Tryz.zeroValue4
 t5:=Tryz.underlying5
 a5:=Tryz.isAgg5
 z5:=Tryz.sizeOf5
 v5:=Tryz.zeroValue5
 t9:=Tryz.underlying9
 a9:=Tryz.isAgg9
 z9:=Tryz.sizeOf9
 v9:=Tryz.zeroValue9
 t21:=Tryz.underlying21
 a21:=Tryz.isAgg21
 z21:=Tryz.sizeOf21
 v21:=Tryz.zeroValue21
 t46:=Tryz.underlying104
 a46:=Tryz.isAgg104
 z46:=Tryz.sizeOf104
 v46:=Tryz.zeroValue104
 t105:=Tryz.underlying170
 a105:=Tryz.isAgg170
 z105:=Tryz.sizeOf170
 v105:=Tryz.zeroValue170
 t116:=Tryz.underlying161
 a116:=Tryz.isAgg161
 z116:=Tryz.sizeOf161
 t117:=Tryz.underlying162
 a117:=Tryz.isAgg162
 z117:=Tryz.sizeOf162
 v117:=Tryz.zeroValue162
 t119:=Tryz.underlying176
 a119:=Tryz.isAgg176
 z119:=Tryz.sizeOf176
 t124:=Tryz.underlying165
 a124:=Tryz.isAgg165
 z124:=Tryz.sizeOf165
 v124:=Tryz.zeroValue165
 t138:=Tryz.underlying178
 a138:=Tryz.isAgg178
 z138:=Tryz.sizeOf178
 v138:=Tryz.zeroValue178
 t139:=Tryz.underlying179
 a139:=Tryz.isAgg179
 z139:=Tryz.sizeOf179
 v139:=Tryz.zeroValue179
 g3:=by kernel_rfl
 g4:=by kernel_rfl }
end Go.Proofs
namespace Go.Proofs.YtckklclehofddaaGreatDoor
open Go.Ax
set_option maxRecDepth 1000000
def chars:List UInt8:=[97,98,99,100,101,102,103,104,105,106,107,108,109,110,111,112,113,114,115,116,117,118,119,120,121,122,48,49,50,51,52,53,54,55,56,57,45,95,46]
def isCh (b:UInt8):Bool:=chars.contains b
def nameOk (s:ByteArray):Bool:=!(s.data.toList==[])&&(decide ((s.size:Int)<=32)&&s.data.toList.all isCh)
theorem drop_all {l:List UInt8} {p:UInt8->Bool}:(l.dropWhile p==[])=l.all p:=by
 induction l with
 | nil=>rfl
 | cons a l ih =>
   rw [List.dropWhile_cons,List.all_cons]
   cases h:p a
   · simp
   · simpa using ih
theorem trim_all (l:List UInt8):(Lib.trimS l chars==[])=l.all isCh:=by
 unfold Lib.trimS Lib.trimLeftS Lib.trimRightS
 rw [drop_all]
 cases h:l.all isCh
 · rw [Bool.eq_false_iff]
   intro h2
   have h3:∀ m:List UInt8,(m.dropWhile isCh).all isCh=true->m.all isCh=true:=by
    intro m
    induction m with
    | nil=>exact fun _=>rfl
    | cons a m ih =>
      rw [List.dropWhile_cons]
      cases ha:isCh a
      · intro h;simp at h;simp [ha] at h
      · intro h;simp only [List.all_cons,ha,Bool.true_and];exact ih h
   have h4:(l.reverse.dropWhile isCh).all isCh=true:=by
    rw [<- List.all_reverse];exact h2
   have h5:=h3 _ h4
   rw [List.all_reverse] at h5
   rw [h5] at h;cases h
 · rw [List.all_reverse]
   have:l.reverse.dropWhile isCh=[]:=by
    have:=drop_all (l:=l.reverse) (p:=isCh)
    rw [List.all_reverse,h] at this
    simpa using this
   have e:l.reverse.dropWhile (fun x=>chars.contains x)=[]:=this
   rw [e];rfl
def trimR (s:ByteArray):T An:=.ret (.y (.string ⟨(Lib.trimS s.data.toList chars).toArray⟩),[],[])
theorem trim_c (s:ByteArray) (hs:s.size<=9223372036854775807):(trimR s).Sat (ACall' Tryz.prog 95 [.y (.string s),.s (.string ⟨chars.toArray⟩)] []):=by
 refine call_below fun w vals hv=>?_
 obtain ⟨H,E,v,l1,e1,hv1,v2,l2,e2,hv2,e3⟩:=hv
 have e3:l2=[]:=e3
 subst e3
 subst e2
 obtain rfl:=hv1.1
 obtain rfl:=hv2.1
 have hvals:vals=#[.string s,.string ⟨chars.toArray⟩]:=Array.ext' e1
 subst hvals
 refine (Any.strings_Trim_laid Tryz.lays160 (by kernel_rfl) s ⟨chars.toArray⟩ w hs (by decide) (Go.Proofs.ascii_of_all (by decide))).mono ?_
 rintro e w' ⟨rfl,hb⟩
 exact ⟨_,rfl,fun _ _=>⟨rfl,rfl⟩,hb⟩
noncomputable def trimC (s:ByteArray):Ctr Tryz.prog:=⟨95,[.y (.string s),.s (.string ⟨chars.toArray⟩)],[],.need (s.size<=9223372036854775807) (trimR s),T.Sat.need fun h=>trim_c s h⟩
noncomputable def nameH (s:ByteArray):HintsT Tryz.prog:=hh _ noLp (cs1 78 1 9 (trimC s) noCs) noOp
def vcName (s:ByteArray):Prop :=
 ((!s.data.toList==[])=true->(decide ((↑(ByteArray.size s):Int)<=(32:Int))=true->(s=s/\{ data:=#[(97:UInt8),(98:UInt8),(99:UInt8),(100:UInt8),(101:UInt8),(102:UInt8),(103:UInt8),(104:UInt8),(105:UInt8),(106:UInt8),(107:UInt8),(108:UInt8),(109:UInt8),(110:UInt8),(111:UInt8),(112:UInt8),(113:UInt8),(114:UInt8),(115:UInt8),(116:UInt8),(117:UInt8),(118:UInt8),(119:UInt8),(120:UInt8),(121:UInt8),(122:UInt8),(48:UInt8),(49:UInt8),(50:UInt8),(51:UInt8),(52:UInt8),(53:UInt8),(54:UInt8),(55:UInt8),(56:UInt8),(57:UInt8),(45:UInt8),(95:UInt8),(46:UInt8)]:ByteArray }={ data:=#[(97:UInt8),(98:UInt8),(99:UInt8),(100:UInt8),(101:UInt8),(102:UInt8),(103:UInt8),(104:UInt8),(105:UInt8),(106:UInt8),(107:UInt8),(108:UInt8),(109:UInt8),(110:UInt8),(111:UInt8),(112:UInt8),(113:UInt8),(114:UInt8),(115:UInt8),(116:UInt8),(117:UInt8),(118:UInt8),(119:UInt8),(120:UInt8),(121:UInt8),(122:UInt8),(48:UInt8),(49:UInt8),(50:UInt8),(51:UInt8),(52:UInt8),(53:UInt8),(54:UInt8),(55:UInt8),(56:UInt8),(57:UInt8),(45:UInt8),(95:UInt8),(46:UInt8)]:ByteArray }/\True)/\True/\ByteArray.size s<=(9223372036854775807:Nat)/\(Lib.trimS s.data.toList [(97:UInt8),(98:UInt8),(99:UInt8),(100:UInt8),(101:UInt8),(102:UInt8),(103:UInt8),(104:UInt8),(105:UInt8),(106:UInt8),(107:UInt8),(108:UInt8),(109:UInt8),(110:UInt8),(111:UInt8),(112:UInt8),(113:UInt8),(114:UInt8),(115:UInt8),(116:UInt8),(117:UInt8),(118:UInt8),(119:UInt8),(120:UInt8),(121:UInt8),(122:UInt8),(48:UInt8),(49:UInt8),(50:UInt8),(51:UInt8),(52:UInt8),(53:UInt8),(54:UInt8),(55:UInt8),(56:UInt8),(57:UInt8),(45:UInt8),(95:UInt8),(46:UInt8)]==[])=nameOk s/\True)/\(decide ((↑(ByteArray.size s):Int)<=(32:Int))=false->false=nameOk s/\True))/\((!s.data.toList==[])=false->false=nameOk s/\True)
theorem vcName_eq (s:ByteArray):(ctrVC Tryz.prog (nameH s) 78 [.y (.string s)] [] (boolR (nameOk s)))=vcName s:=by kernel_rfl
def chI (c:Int):Bool:=!((decide (c<97)||decide (122<c))&&((decide (c<48)||decide (57<c))&&(c != 45&&(c != 95&&c != 46))))
def nmFrom (s:ByteArray) (k:Nat):Bool:=(s.data.toList.drop k).all isCh
def nmT (s:ByteArray) (k:Nat):List AV:=mkT 48 [(0,.y (.string s)),(2,.s (.bool false)),(3,.y (.int .i64 k))]
def nmS (r:Bool):Exit×List AV×List Blk:=match r with
 | true=>(.exit 0,mkT 48 [],[])
 | false=>(.ret,mkT 48 [(2,.s (.bool false))],[])
def nmO (s:ByteArray) (k:Nat):T Bool:=.ite (nmFrom s k) (.ret true) (.ret false)
def vcNmL_q1 (s:ByteArray) (k:Nat):Prop:=(((↑(UInt8.toNat (List.getD s.data.toList (Int.toNat (↑k:Int)) (0:UInt8))):Int) != (45:Int))=true->(((↑(UInt8.toNat (List.getD s.data.toList (Int.toNat (↑k:Int)) (0:UInt8))):Int) != (95:Int))=true->(((↑(UInt8.toNat (List.getD s.data.toList (Int.toNat (↑k:Int)) (0:UInt8))):Int) != (46:Int))=true->(nmFrom s k=true->False)/\(nmFrom s k=false->(false=false/\True)/\True/\true=true))/\(((↑(UInt8.toNat (List.getD s.data.toList (Int.toNat (↑k:Int)) (0:UInt8))):Int) != (46:Int))=false->∃ (j:Nat),ByteArray.size s - j<ByteArray.size s - k/\((s=s/\false=false/\IntKind.wrap IntKind.i64 ((↑k:Int)+(1:Int))=(↑j:Int)/\True)/\True/\true=true)/\true=true/\(nmFrom s j=true->(nmFrom s k=true->true=true)/\(nmFrom s k=false->true=false))/\(nmFrom s j=false->(nmFrom s k=true->false=true)/\(nmFrom s k=false->false=false))))/\(((↑(UInt8.toNat (List.getD s.data.toList (Int.toNat (↑k:Int)) (0:UInt8))):Int) != (95:Int))=false->∃ (j:Nat),ByteArray.size s - j<ByteArray.size s - k/\((s=s/\false=false/\IntKind.wrap IntKind.i64 ((↑k:Int)+(1:Int))=(↑j:Int)/\True)/\True/\true=true)/\true=true/\(nmFrom s j=true->(nmFrom s k=true->true=true)/\(nmFrom s k=false->true=false))/\(nmFrom s j=false->(nmFrom s k=true->false=true)/\(nmFrom s k=false->false=false))))
def vcNmL_q2 (s:ByteArray) (k:Nat):Prop:=(((↑(UInt8.toNat (List.getD s.data.toList (Int.toNat (↑k:Int)) (0:UInt8))):Int) != (45:Int))=false->∃ (j:Nat),ByteArray.size s - j<ByteArray.size s - k/\((s=s/\false=false/\IntKind.wrap IntKind.i64 ((↑k:Int)+(1:Int))=(↑j:Int)/\True)/\True/\true=true)/\true=true/\(nmFrom s j=true->(nmFrom s k=true->true=true)/\(nmFrom s k=false->true=false))/\(nmFrom s j=false->(nmFrom s k=true->false=true)/\(nmFrom s k=false->false=false)))
def vcNmL_q3 (s:ByteArray) (k:Nat):Prop:=(decide ((↑(UInt8.toNat (List.getD s.data.toList (Int.toNat (↑k:Int)) (0:UInt8))):Int)<(48:Int))=false->(decide ((57:Int)<(↑(UInt8.toNat (List.getD s.data.toList (Int.toNat (↑k:Int)) (0:UInt8))):Int))=true->(vcNmL_q1 s k)/\(vcNmL_q2 s k))/\(decide ((57:Int)<(↑(UInt8.toNat (List.getD s.data.toList (Int.toNat (↑k:Int)) (0:UInt8))):Int))=false->∃ (j:Nat),ByteArray.size s - j<ByteArray.size s - k/\((s=s/\false=false/\IntKind.wrap IntKind.i64 ((↑k:Int)+(1:Int))=(↑j:Int)/\True)/\True/\true=true)/\true=true/\(nmFrom s j=true->(nmFrom s k=true->true=true)/\(nmFrom s k=false->true=false))/\(nmFrom s j=false->(nmFrom s k=true->false=true)/\(nmFrom s k=false->false=false))))
def vcNmL (s:ByteArray) (k:Nat):Prop :=
 (decide ((↑k:Int)<(↑(ByteArray.size s):Int))=true->(true&&decide ((↑k:Int)<(↑(ByteArray.size s):Int)))=true/\(decide ((↑(UInt8.toNat (List.getD s.data.toList (Int.toNat (↑k:Int)) (0:UInt8))):Int)<(97:Int))=true->(decide ((↑(UInt8.toNat (List.getD s.data.toList (Int.toNat (↑k:Int)) (0:UInt8))):Int)<(48:Int))=true->(vcNmL_q1 s k)/\(vcNmL_q2 s k))/\(vcNmL_q3 s k))/\(decide ((↑(UInt8.toNat (List.getD s.data.toList (Int.toNat (↑k:Int)) (0:UInt8))):Int)<(97:Int))=false->(decide ((122:Int)<(↑(UInt8.toNat (List.getD s.data.toList (Int.toNat (↑k:Int)) (0:UInt8))):Int))=true->(decide ((↑(UInt8.toNat (List.getD s.data.toList (Int.toNat (↑k:Int)) (0:UInt8))):Int)<(48:Int))=true->(vcNmL_q1 s k)/\(vcNmL_q2 s k))/\(vcNmL_q3 s k))/\(decide ((122:Int)<(↑(UInt8.toNat (List.getD s.data.toList (Int.toNat (↑k:Int)) (0:UInt8))):Int))=false->∃ (j:Nat),ByteArray.size s - j<ByteArray.size s - k/\((s=s/\false=false/\IntKind.wrap IntKind.i64 ((↑k:Int)+(1:Int))=(↑j:Int)/\True)/\True/\true=true)/\true=true/\(nmFrom s j=true->(nmFrom s k=true->true=true)/\(nmFrom s k=false->true=false))/\(nmFrom s j=false->(nmFrom s k=true->false=true)/\(nmFrom s k=false->false=false)))))/\(decide ((↑k:Int)<(↑(ByteArray.size s):Int))=false->(nmFrom s k=true->True/\True/\true=true)/\(nmFrom s k=false->False))
theorem vcNmL_eq (s:ByteArray) (k:Nat):(loopVC Tryz.prog (hT _) 93 4 (fun k=>s.size - k) (nmT s) (fun _=>[]) [0] (nmO s) nmS k)=vcNmL s k:=by kernel_rfl
noncomputable def nmH (s:ByteArray):HintsT Tryz.prog:=hh _ (lp1 93 4 (jobOf (nmT s) (fun _=>[]) [0] (nmO s) nmS 0) noLp) noCs noOp
def vcNm (s:ByteArray):Prop :=
 (decide (((ByteArray.size s):Int)<1)=true->false=nameOk s/\True)/\(decide (((ByteArray.size s):Int)<1)=false->(decide (32<((ByteArray.size s):Int))=true->false=nameOk s/\True)/\(decide (32<((ByteArray.size s):Int))=false->((s=s/\false=false/\(0:Int)=0/\True)/\True/\true=true)/\LoopOk Tryz.prog 93 4 (loopAt Tryz.prog 93 4) { t:=nmT s 0,m:=[],mv:=[]:St } (T.map (lout [0] nmS) (nmO s 0))/\(nmFrom s 0=true->true=nameOk s/\True)/\(nmFrom s 0=false->false=nameOk s/\True)))
theorem vcNm_eq (s:ByteArray):(ctrVC Tryz.prog (nmH s) 93 [.y (.string s)] [] (boolR (nameOk s)))=vcNm s:=by kernel_rfl
end Go.Proofs.YtckklclehofddaaGreatDoor

namespace Go.Proofs.YtckklclehofddaaGreatDoor
open Go.Ax
set_option maxRecDepth 1000000
theorem name_c (s:ByteArray):(boolR (nameOk s)).Sat (ACall' Tryz.prog 78 [.y (.string s)] []):=by
 refine ctr_vc (ht:=nameH s) Tryz.mixed rfl ?_
 rw [vcName_eq s]
 unfold vcName
 have e:=trim_all s.data.toList
 unfold chars at e
 simp only [e,nameOk]
 generalize (s.data.toList==[])=a
 generalize hb:decide ((s.size:Int)<=32)=b
 generalize s.data.toList.all isCh=c
 cases a<;>cases b<;>cases c<;>simp at hb ⊢<;>omega
theorem ch_eq (b:UInt8):isCh b=chI (b.toNat:Nat):=by
 have:∀ n:Fin 256,isCh (UInt8.ofNat n.1)=chI (n.1:Nat):=by decide +kernel
 have h:=this ⟨b.toNat,b.toNat_lt⟩
 simpa using h
theorem nmFrom_end {s:ByteArray} {k:Nat} (h:s.size<=k):nmFrom s k=true:=by
 unfold nmFrom
 rw [List.drop_eq_nil_of_le (by simpa using h)]
 rfl
theorem nmFrom_step {s:ByteArray} {k:Nat} (h:k<s.size):nmFrom s k=(chI ((s.data.toList.getD k 0).toNat:Nat)&&nmFrom s (k+1)):=by
 unfold nmFrom
 have hk:k<s.data.toList.length:=by simpa using h
 rw [List.drop_eq_getElem_cons hk,List.all_cons,ch_eq]
 simp [List.getElem?_eq_getElem hk]
theorem nm_loop (s:ByteArray) (hs:s.size<=32) (k:Nat):LoopOk Tryz.prog 93 4 (loopAt Tryz.prog 93 4) ⟨nmT s k,[],[]⟩ ((nmO s k).map (lout [0] nmS)):=by
 refine loop_vc Tryz.mixed (fun _=>rfl) (fun k=>(vcNmL_eq s k).mpr ?_) k
 unfold vcNmL vcNmL_q3 vcNmL_q2 vcNmL_q1
 by_cases h:k<s.size
 · have h1:decide ((k:Int)<(s.size:Int))=true:=by simp;omega
   simp only [h1,nmFrom_step h,chI,Int.toNat_natCast]
   have hw:IntKind.i64.wrap ((k:Int)+1)=((k+1:Nat):Int):=by rw [wrap_i64 (by omega) (by omega)];omega
   have hex:∀ q:Nat->Prop,q (k+1)->∃ j,s.size - j<s.size - k/\q j:=fun q h=>⟨k+1,by omega,h⟩
   generalize decide (((s.data.toList.getD k 0).toNat:Int)<97)=b1
   generalize decide (122<((s.data.toList.getD k 0).toNat:Int))=b2
   generalize decide (((s.data.toList.getD k 0).toNat:Int)<48)=b3
   generalize decide (57<((s.data.toList.getD k 0).toNat:Int))=b4
   generalize (((s.data.toList.getD k 0).toNat:Int) != 45)=b5
   generalize (((s.data.toList.getD k 0).toNat:Int) != 95)=b6
   generalize (((s.data.toList.getD k 0).toNat:Int) != 46)=b7
   cases b1<;>cases b2<;>cases b3<;>cases b4<;>cases b5<;>cases b6<;>cases b7<;>simp<;>exact ⟨k+1,by omega,hw,by simp,by simp⟩
 · have h1:decide ((k:Int)<(s.size:Int))=false:=by simp;omega
   simp [h1,nmFrom_end (show s.size<=k by omega)]
   exact fun e=>absurd e h
theorem nm_c (s:ByteArray):(boolR (nameOk s)).Sat (ACall' Tryz.prog 93 [.y (.string s)] []):=by
 refine ctr_vc (ht:=nmH s) Tryz.mixed rfl ?_
 rw [vcNm_eq s]
 unfold vcNm
 by_cases h:s.size<=32
 · have lp:=nm_loop s h 0
   have h2:¬ ((32:Int)<s.size):=by omega
   have hl:s.data.toList.length=s.size:=Array.length_toList
   have h5:nmFrom s 0=s.data.toList.all isCh:=rfl
   rw [h5] at *
   have h6:decide ((s.size:Int)<=32)=true:=by simp;omega
   by_cases hz:(s.size:Int)<1
   · have h3:(s.data.toList==[])=true:=by
      rw [beq_iff_eq];exact List.length_eq_zero_iff.1 (by omega)
     simp only [nameOk,h3,h6]
     simp [hz]
   · have h3:(s.data.toList==[])=false:=by
      rw [beq_eq_false_iff_ne];intro e;rw [e] at hl;simp at hl;omega
     simp only [nameOk,h3,h6]
     generalize s.data.toList.all isCh=c at *
     cases c<;>simp [hz,h2,lp]
 · have h2:(32:Int)<s.size:=by omega
   have h3:¬ ((s.size:Int)<=32):=by omega
   simp [nameOk,h2,h3]
noncomputable def nameC (s:ByteArray):Ctr Tryz.prog:=⟨78,[.y (.string s)],[],boolR (nameOk s),name_c s⟩
noncomputable def nmC (s:ByteArray):Ctr Tryz.prog:=⟨93,[.y (.string s)],[],boolR (nameOk s),nm_c s⟩
end Go.Proofs.YtckklclehofddaaGreatDoor

namespace Go.Proofs.YtckklclehofddaaGreatDoor
open Go.Ax
set_option maxRecDepth 1000000
def smT (b1 b2:Bool) (a:List Rec) (k:Nat):List AV:=mkT 82 [(0,encRs b1 a),(1,encRs b2 a),(5,.y (.int .i64 k))]
def smS (_:Unit):Exit×List AV×List Blk:=(.exit 0,mkT 82 [],[])
def vcSameL (b1:Bool) (b2:Bool) (a:List Rec) (k:Nat):Prop :=
 (decide ((↑k:Int)<(↑(List.length a):Int))=true->(true&&decide ((↑k:Int)<(↑(List.length a):Int)))=true/\(true&&decide ((↑k:Int)<(↑(List.length a):Int)))=true/\(((List.getD a (Int.toNat (↑k:Int)) (@default Rec instInhabitedRec)).off != (List.getD a (Int.toNat (↑k:Int)) (@default Rec instInhabitedRec)).off)=true->False)/\(((List.getD a (Int.toNat (↑k:Int)) (@default Rec instInhabitedRec)).off != (List.getD a (Int.toNat (↑k:Int)) (@default Rec instInhabitedRec)).off)=false->(true&&decide ((↑k:Int)<(↑(List.length a):Int)))=true/\(true&&decide ((↑k:Int)<(↑(List.length a):Int)))=true/\((!(List.getD a (Int.toNat (↑k:Int)) (@default Rec instInhabitedRec)).key.data.toList==(List.getD a (Int.toNat (↑k:Int)) (@default Rec instInhabitedRec)).key.data.toList)=true->False)/\((!(List.getD a (Int.toNat (↑k:Int)) (@default Rec instInhabitedRec)).key.data.toList==(List.getD a (Int.toNat (↑k:Int)) (@default Rec instInhabitedRec)).key.data.toList)=false->(true&&decide ((↑k:Int)<(↑(List.length a):Int)))=true/\(∀ (k_1:Nat),k_1<List.length (List.getD a (Int.toNat (↑k:Int)) (@default Rec instInhabitedRec)).val->true=true)/\(true&&decide ((↑k:Int)<(↑(List.length a):Int)))=true/\(∀ (k_1:Nat),k_1<List.length (List.getD a (Int.toNat (↑k:Int)) (@default Rec instInhabitedRec)).val->true=true)/\((!List.map (fun (a:AV)=>match match a with | AV.s (Value.int IntKind.u8 n)=>some n | AV.y (Value.int IntKind.u8 n)=>some n | x=>none with | some n=>UInt8.ofNat (Int.toNat n) | none=>(0:UInt8)) (List.map (fun (k_1:Nat)=>AV.y (Value.int IntKind.u8 (List.getD (List.getD a (Int.toNat (↑k:Int)) (@default Rec instInhabitedRec)).val k_1 (0:Int)))) (List.range (List.length (List.getD a (Int.toNat (↑k:Int)) (@default Rec instInhabitedRec)).val)))==List.map (fun (a:AV)=>match match a with | AV.s (Value.int IntKind.u8 n)=>some n | AV.y (Value.int IntKind.u8 n)=>some n | x=>none with | some n=>UInt8.ofNat (Int.toNat n) | none=>(0:UInt8)) (List.map (fun (k_1:Nat)=>AV.y (Value.int IntKind.u8 (List.getD (List.getD a (Int.toNat (↑k:Int)) (@default Rec instInhabitedRec)).val k_1 (0:Int)))) (List.range (List.length (List.getD a (Int.toNat (↑k:Int)) (@default Rec instInhabitedRec)).val))))=true->False)/\((!List.map (fun (a:AV)=>match match a with | AV.s (Value.int IntKind.u8 n)=>some n | AV.y (Value.int IntKind.u8 n)=>some n | x=>none with | some n=>UInt8.ofNat (Int.toNat n) | none=>(0:UInt8)) (List.map (fun (k_1:Nat)=>AV.y (Value.int IntKind.u8 (List.getD (List.getD a (Int.toNat (↑k:Int)) (@default Rec instInhabitedRec)).val k_1 (0:Int)))) (List.range (List.length (List.getD a (Int.toNat (↑k:Int)) (@default Rec instInhabitedRec)).val)))==List.map (fun (a:AV)=>match match a with | AV.s (Value.int IntKind.u8 n)=>some n | AV.y (Value.int IntKind.u8 n)=>some n | x=>none with | some n=>UInt8.ofNat (Int.toNat n) | none=>(0:UInt8)) (List.map (fun (k_1:Nat)=>AV.y (Value.int IntKind.u8 (List.getD (List.getD a (Int.toNat (↑k:Int)) (@default Rec instInhabitedRec)).val k_1 (0:Int)))) (List.range (List.length (List.getD a (Int.toNat (↑k:Int)) (@default Rec instInhabitedRec)).val))))=false->(true&&decide ((↑k:Int)<(↑(List.length a):Int)))=true/\(true&&decide ((↑k:Int)<(↑(List.length a):Int)))=true/\(((List.getD a (Int.toNat (↑k:Int)) (@default Rec instInhabitedRec)).prod != (List.getD a (Int.toNat (↑k:Int)) (@default Rec instInhabitedRec)).prod)=true->False)/\(((List.getD a (Int.toNat (↑k:Int)) (@default Rec instInhabitedRec)).prod != (List.getD a (Int.toNat (↑k:Int)) (@default Rec instInhabitedRec)).prod)=false->(true&&decide ((↑k:Int)<(↑(List.length a):Int)))=true/\(true&&decide ((↑k:Int)<(↑(List.length a):Int)))=true/\(((List.getD a (Int.toNat (↑k:Int)) (@default Rec instInhabitedRec)).seq != (List.getD a (Int.toNat (↑k:Int)) (@default Rec instInhabitedRec)).seq)=true->False)/\(((List.getD a (Int.toNat (↑k:Int)) (@default Rec instInhabitedRec)).seq != (List.getD a (Int.toNat (↑k:Int)) (@default Rec instInhabitedRec)).seq)=false->∃ (j:Nat),List.length a - j<List.length a - k/\(((b1=b1/\List.length a=List.length a/\contLe (List.length a) (5:Nat) (cellsOf' encR a) (cellsOf' encR a))/\(b2=b2/\List.length a=List.length a/\contLe (List.length a) (5:Nat) (cellsOf' encR a) (cellsOf' encR a))/\IntKind.wrap IntKind.i64 ((↑k:Int)+(1:Int))=(↑j:Int)/\True)/\True/\true=true)/\true=true/\()=()))))))/\(decide ((↑k:Int)<(↑(List.length a):Int))=false->True/\True/\true=true)
theorem vcSameL_eq (b1:Bool) (b2:Bool) (a:List Rec) (k:Nat):(loopVC Tryz.prog (hT _) 25 4 (fun k=>a.length - k) (smT b1 b2 a) (fun _=>[]) [0] (fun _=>.ret ()) smS k)=vcSameL b1 b2 a k:=by kernel_rfl
noncomputable def smH (b1 b2:Bool) (a:List Rec):HintsT Tryz.prog:=hh _ (lp1 25 4 (jobOf (smT b1 b2 a) (fun _=>[]) [0] (fun _=>.ret ()) smS 0) noLp) noCs noOp
def vcSame (b1:Bool) (b2:Bool) (a:List Rec):Prop :=
 (((a.length:Int) != (a.length:Int))=true->false=true/\True)/\(((a.length:Int) != (a.length:Int))=false->(((b1=b1/\a.length=a.length/\contLe a.length 5 (cellsOf' encR a) (cellsOf' encR a))/\(b2=b2/\a.length=a.length/\contLe a.length 5 (cellsOf' encR a) (cellsOf' encR a))/\(0:Int)=0/\True)/\True/\true=true)/\LoopOk Tryz.prog 25 4 (loopAt Tryz.prog 25 4) { t:=smT b1 b2 a 0,m:=[],mv:=[]:St } (T.map (lout [0] smS) ((fun (x:Nat)=>T.ret ()) 0))/\true=true/\True)
theorem vcSame_eq (b1:Bool) (b2:Bool) (a:List Rec):(ctrVC Tryz.prog (smH b1 b2 a) 25 [encRs b1 a,encRs b2 a] [] (boolR true))=vcSame b1 b2 a:=by kernel_rfl
def stT (b1 b2:Bool) (a:List Int) (k:Nat):List AV:=mkT 26 [(0,encUs b1 a),(1,encUs b2 a),(5,.y (.int .i64 k))]
theorem same_loop (b1 b2:Bool) (a:List Rec) (hl:a.length<=9223372036854775806) (k:Nat):LoopOk Tryz.prog 25 4 (loopAt Tryz.prog 25 4) ⟨smT b1 b2 a k,[],[]⟩ (T.map (lout [0] smS) (.ret ())):=by
 refine loop_vc (o:=fun _=>.ret ()) Tryz.mixed (fun _=>rfl) (fun k=>(vcSameL_eq b1 b2 a k).mpr ?_) k
 unfold vcSameL
 simp
 intro h
 have hb:∀ q:Nat,isU8 (cellsOf' encB (a[k]?.getD default).val q 0)=true:=fun _=>rfl
 simp [h,hb]
 exact ⟨k+1,by omega,by rw [wrap_i64 (by omega) (by omega)];omega⟩
theorem same_c (b1 b2:Bool) (a:List Rec) (hl:a.length<=9223372036854775806):(boolR true).Sat (ACall' Tryz.prog 25 [encRs b1 a,encRs b2 a] []):=by
 refine ctr_vc (ht:=smH b1 b2 a) Tryz.mixed rfl ?_
 rw [vcSame_eq b1 b2 a]
 unfold vcSame
 simp [same_loop b1 b2 a hl 0]
noncomputable def sameC (b1 b2:Bool) (a b:List Rec):Ctr Tryz.prog:=⟨25,[encRs b1 a,encRs b2 b],[],.need (a.length<=9223372036854775806/\a=b) (boolR true),T.Sat.need fun h=>by obtain ⟨h1,rfl⟩:=h;exact same_c b1 b2 a h1⟩
def kB:ByteArray:=⟨#[107]⟩
end Go.Proofs.YtckklclehofddaaGreatDoor

namespace Go.Proofs.YtckklclehofddaaGreatDoor
open Go.Ax
set_option maxRecDepth 1000000
theorem tagR (x:Rec) (j:Nat) (hj:j<5):tagT (Ax.get (encR x) j)=true:=by
 match j,hj with
 | 0,_=>rfl
 | 1,_=>rfl
 | 2,_=>rfl
 | 3,_=>rfl
 | 4,_=>rfl
end Go.Proofs.YtckklclehofddaaGreatDoor

namespace Go.Proofs.YtckklclehofddaaGreatDoor
open Go.Ax
set_option maxRecDepth 1000000
noncomputable def hasC (r:Rng) (k:ByteArray):Ctr Tryz.prog:=⟨51,[.agg (encG r),.y (.string k)],[],boolR (hasK r k),has_c r k⟩
noncomputable def has2C (r:Rng) (k:ByteArray):Ctr Tryz.prog:=⟨68,[.agg (encG r),.y (.string k)],[],boolR (hasK r k),has2_c r k⟩
structure Ke where
 (out:List Rec) (to:List Int)
def Ke.step (r:Rng) (s:Ke) (x:Rec):Ke:=⟨if hasK r x.key then s.out++[x.to (IntKind.u64.wrap (s.out.length:Nat))] else s.out,s.to++[IntKind.u64.wrap (s.out.length:Nat)]⟩
def ke (r:Rng) (l:List Rec):Ke:=l.foldl (Ke.step r) ⟨[],[]⟩
theorem ke_step {r:Rng} {l:List Rec} {k:Nat} (h:k<l.length):ke r (l.take (k+1))=(ke r (l.take k)).step r (l.getD k default):=by
 unfold ke
 rw [List.take_add_one,List.foldl_append,List.getElem?_eq_getElem h]
 simp [List.getElem?_eq_getElem h]
def kpM (r:Rng) (s:Ke):List Blk:=[.box 24 (encG r),rowR s.out,rowU s.to]
def kpT (b:Bool) (l:List Rec) (s:Ke) (k:Nat):List AV:=mkT 53 [(3,.ptr 0 0 0 0),(6,.own 1 5 0 s.out.length),(7,.own 2 1 0 s.to.length),(22,encRs b l),(23,.y (.int .i64 l.length)),(24,.y (.int .i64 k))]
def kpS (r:Rng) (s:Ke) (_:Unit):Exit×List AV×List Blk:=(.exit 0,mkT 53 [(6,.own 1 5 0 s.out.length),(7,.own 2 1 0 s.to.length)],kpM r s)
noncomputable def kpH (r:Rng) (l:List Rec) (k:Nat):HintsT Tryz.prog:=hh _ noLp (cs1 22 9 3 (hasC r (l.getD k default).key) (cs1 22 10 4 (ownC (l.getD k default) (ke r (l.take k)).out.length) noCs)) noOp
def vcKpL (b:Bool) (r:Rng) (l:List Rec) (k:Nat):Prop :=
 (decide ((k:Int)<(l.length:Int))=true->(true&&decide ((k:Int)<(l.length:Int)))=true/\(decide ((ke r (List.take k l)).to.length=(ke r (List.take k l)).to.length)&&decide ((ke r (List.take k l)).to.length+1<=9223372036854775807)&&decide (((ke r (List.take k l)).to.length+1)*8<=140737488355328))=true/\((r.lo=r.lo/\r.hi=r.hi/\True)/\(l.getD (Int.toNat (k:Int)) default).key=(l.getD k default).key/\True)/\True/\(hasK r (l.getD k default).key=true->(((l.getD (Int.toNat (k:Int)) default).off=(l.getD k default).off/\(l.getD (Int.toNat (k:Int)) default).key=(l.getD k default).key/\(true=true/\(l.getD (Int.toNat (k:Int)) default).val.length=(l.getD k default).val.length/\contLe (l.getD (Int.toNat (k:Int)) default).val.length 1 (cellsOf' encB (l.getD (Int.toNat (k:Int)) default).val) (cellsOf' encB (l.getD k default).val))/\(l.getD (Int.toNat (k:Int)) default).prod=(l.getD k default).prod/\(l.getD (Int.toNat (k:Int)) default).seq=(l.getD k default).seq/\True)/\((ke r (List.take k l)).out.length:Int)=((ke r (List.take k l)).out.length:Int)/\True)/\True/\(l.getD k default).val.length<=140737488355328/\(decide ((ke r (List.take k l)).out.length=(ke r (List.take k l)).out.length)&&decide ((ke r (List.take k l)).out.length+1<=9223372036854775807)&&decide (((ke r (List.take k l)).out.length+1)*64<=140737488355328))=true/\∃ j:Nat,l.length - j<l.length - k/\(((0=0/\0=0)/\(0=0/\(ke r (List.take k l)).out.length+1=(ke r (List.take j l)).out.length)/\(0=0/\(ke r (List.take k l)).to.length+1=(ke r (List.take j l)).to.length)/\(b=b/\l.length=l.length/\contLe l.length 5 (cellsOf' encR l) (cellsOf' encR l))/\(l.length:Int)=(l.length:Int)/\IntKind.i64.wrap ((k:Int)+1)=(j:Int)/\True)/\((r.lo=r.lo/\r.hi=r.hi/\True)/\((ke r (List.take k l)).out.length+1=(ke r (List.take j l)).out.length/\contLe ((ke r (List.take k l)).out.length+1) 5 (appRow (ke r (List.take k l)).out.length (cellsOf' encR (ke r (List.take k l)).out) fun (k_1 j:Nat)=>Ax.get [AV.y (.int .u64 (IntKind.u64.wrap ((ke r (List.take k l)).out.length:Int))),AV.y (.string (l.getD k default).key),AV.ys true 1 (l.getD k default).val.length (cellsOf' encB (l.getD k default).val),AV.y (.int .u64 (l.getD k default).prod),AV.y (.int .u64 (l.getD k default).seq)] (k_1*5+j)) (cellsOf' encR (ke r (List.take j l)).out))/\((ke r (List.take k l)).to.length+1=(ke r (List.take j l)).to.length/\contLe ((ke r (List.take k l)).to.length+1) 1 (appRow (ke r (List.take k l)).to.length (cellsOf' encU (ke r (List.take k l)).to) fun (k_1 j:Nat)=>Ax.get [AV.y (.int .u64 (IntKind.u64.wrap ((ke r (List.take k l)).out.length:Int)))] (k_1*1+j)) (cellsOf' encU (ke r (List.take j l)).to))/\True)/\true=true)/\true=true/\()=())/\(hasK r (l.getD k default).key=false->∃ j:Nat,l.length - j<l.length - k/\(((0=0/\0=0)/\(0=0/\(ke r (List.take k l)).out.length=(ke r (List.take j l)).out.length)/\(0=0/\(ke r (List.take k l)).to.length+1=(ke r (List.take j l)).to.length)/\(b=b/\l.length=l.length/\contLe l.length 5 (cellsOf' encR l) (cellsOf' encR l))/\(l.length:Int)=(l.length:Int)/\IntKind.i64.wrap ((k:Int)+1)=(j:Int)/\True)/\((r.lo=r.lo/\r.hi=r.hi/\True)/\((ke r (List.take k l)).out.length=(ke r (List.take j l)).out.length/\contLe (ke r (List.take k l)).out.length 5 (cellsOf' encR (ke r (List.take k l)).out) (cellsOf' encR (ke r (List.take j l)).out))/\((ke r (List.take k l)).to.length+1=(ke r (List.take j l)).to.length/\contLe ((ke r (List.take k l)).to.length+1) 1 (appRow (ke r (List.take k l)).to.length (cellsOf' encU (ke r (List.take k l)).to) fun (k_1 j:Nat)=>Ax.get [AV.y (.int .u64 (IntKind.u64.wrap ((ke r (List.take k l)).out.length:Int)))] (k_1*1+j)) (cellsOf' encU (ke r (List.take j l)).to))/\True)/\true=true)/\true=true/\()=()))/\(decide ((k:Int)<(l.length:Int))=false->((0=0/\(ke r (List.take k l)).out.length=(ke r l).out.length)/\(0=0/\(ke r (List.take k l)).to.length=(ke r l).to.length)/\True)/\((r.lo=r.lo/\r.hi=r.hi/\True)/\((ke r (List.take k l)).out.length=(ke r l).out.length/\contLe (ke r (List.take k l)).out.length 5 (cellsOf' encR (ke r (List.take k l)).out) (cellsOf' encR (ke r l).out))/\((ke r (List.take k l)).to.length=(ke r l).to.length/\contLe (ke r (List.take k l)).to.length 1 (cellsOf' encU (ke r (List.take k l)).to) (cellsOf' encU (ke r l).to))/\True)/\true=true)
theorem vcKpL_eq (b:Bool) (r:Rng) (l:List Rec) (k:Nat):(loopVC Tryz.prog (kpH r l k) 22 6 (fun k=>l.length - k) (fun k=>kpT b l (ke r (l.take k)) k) (fun k=>kpM r (ke r (l.take k))) jX (fun _=>.ret ()) (kpS r (ke r l)) k)=vcKpL b r l k:=by kernel_rfl
def keR (s:Ke):T An:=.ret (.tup [.own 0 5 0 s.out.length,.own 1 1 0 s.to.length],[rowR s.out,rowU s.to],[])
def Ke.end (s:Ke):Ke:=⟨s.out,s.to++[IntKind.u64.wrap (s.out.length:Nat)]⟩
def keT (r:Rng) (l:List Rec):T An:=.ite (isLog l&&chkK r==0) (keR (ke r l).end) (.ret (.tup [.s (.slice none 0 0),.s (.slice none 0 0)],[],[]))
noncomputable def keH (b:Bool) (r:Rng) (l:List Rec):HintsT Tryz.prog:=hh _ (lp1 22 6 (jobOf (fun k=>kpT b l (ke r (l.take k)) k) (fun k=>kpM r (ke r (l.take k))) jX (fun _=>.ret ()) (kpS r (ke r l)) 0) noLp) (cs1 22 1 1 (lgC b l) (cs1 22 1 5 (chkC r) noCs)) (op1 22 3 0 (.row 37 5) noOp)
def vcKeep (b:Bool) (r:Rng) (l:List Rec):Prop :=
 ((b=b/\l.length=l.length/\contLe l.length 5 (cellsOf' encR l) (cellsOf' encR l))/\True)/\True/\l.length<=9223372036854775806/\((!isLog l)=true->((isLog l&&chkK r==0)=true->(False/\False/\True)/\False)/\((isLog l&&chkK r==0)=false->(True/\True/\True)/\True))/\((!isLog l)=false->((r.lo=r.lo/\r.hi=r.hi/\True)/\True)/\True/\((chkK r != 0)=true->((isLog l&&chkK r==0)=true->(False/\False/\True)/\False)/\((isLog l&&chkK r==0)=false->(True/\True/\True)/\True))/\((chkK r != 0)=false->(0:Int)<=0/\0<=IntKind.i64.wrap ((l.length:Int)+1)/\8*IntKind.i64.wrap ((l.length:Int)+1)<=281474976710656/\IntKind.i64.wrap ((l.length:Int)+1)<=9223372036854775807/\(((0=0/\0=0)/\(0=0/\0=0)/\(0=0/\0=0)/\(b=b/\l.length=l.length/\contLe l.length 5 (cellsOf' encR l) (cellsOf' encR l))/\(l.length:Int)=(l.length:Int)/\(0:Int)=0/\True)/\((r.lo=r.lo/\r.hi=r.hi/\True)/\(0=0/\contLe 0 5 (fun (x x_1:Nat)=>AV.junk) (cellsOf' encR []))/\(0=0/\contLe 0 1 (fun (x j:Nat)=>Ax.get [AV.s (.int .u64 0)] j) (cellsOf' encU []))/\True)/\true=true)/\LoopOk Tryz.prog 22 6 (loopAt Tryz.prog 22 6) { t:=kpT b l (ke r (List.take 0 l)) 0,m:=kpM r (ke r (List.take 0 l)),mv:=[]:St } (T.map (lout jX (kpS r (ke r l))) ((fun (x:Nat)=>T.ret ()) 0))/\(decide ((ke r l).to.length=(ke r l).to.length)&&decide ((ke r l).to.length+1<=9223372036854775807)&&decide (((ke r l).to.length+1)*8<=140737488355328))=true/\((isLog l&&chkK r==0)=true->((0=0/\(ke r l).out.length=(ke r l).out.length)/\(0=0/\(ke r l).to.length+1=((ke r l).to++[IntKind.u64.wrap ((ke r l).out.length:Int)]).length)/\True)/\((ke r l).out.length=(ke r l).out.length/\contLe (ke r l).out.length 5 (cellsOf' encR (ke r l).out) (cellsOf' encR (ke r l).out))/\((ke r l).to.length+1=((ke r l).to++[IntKind.u64.wrap ((ke r l).out.length:Int)]).length/\contLe ((ke r l).to.length+1) 1 (appRow (ke r l).to.length (cellsOf' encU (ke r l).to) fun (k j:Nat)=>Ax.get [AV.y (.int .u64 (IntKind.u64.wrap ((ke r l).out.length:Int)))] (k*1+j)) (cellsOf' encU ((ke r l).to++[IntKind.u64.wrap ((ke r l).out.length:Int)])))/\True)/\((isLog l&&chkK r==0)=false->False)))
theorem vcKeep_eq (b:Bool) (r:Rng) (l:List Rec):(ctrVC Tryz.prog (keH b r l) 22 [encRs b l,.agg (encG r)] [] (keT r l))=vcKeep b r l:=by kernel_rfl
end Go.Proofs.YtckklclehofddaaGreatDoor

namespace Go.Proofs.YtckklclehofddaaGreatDoor
open Go.Ax
set_option maxRecDepth 1000000
theorem log_val {l:List Rec} (h:isLog l=true) {k:Nat} (hk:k<l.length):(l.getD k default).val.length<=256:=by
 simp only [isLog,Bool.and_eq_true] at h
 have h1:=h.1
 unfold logFrom at h1
 rw [List.all_eq_true] at h1
 have h2:=h1 k (by simp;omega)
 simp only [okR,Bool.and_eq_true,decide_eq_true_eq] at h2
 exact h2.2.2
theorem log_len {l:List Rec} (h:isLog l=true):l.length<=4096:=by
 simp only [isLog,Bool.and_eq_true,decide_eq_true_eq] at h
 exact h.2
theorem ke_len (r:Rng) (l:List Rec):∀ k,k<=l.length->(ke r (l.take k)).to.length=k/\(ke r (l.take k)).out.length<=k:=by
 intro k
 induction k with
 | zero=>intro _;simp [ke]
 | succ k ih =>
   intro hk
   obtain ⟨h1,h2⟩:=ih (by omega)
   rw [ke_step (by omega)]
   unfold Ke.step
   constructor
   · simp [h1]
   · dsimp only
     split
     · simp;omega
     · omega
theorem ke_len' (r:Rng) (l:List Rec):(ke r l).to.length=l.length/\(ke r l).out.length<=l.length:=by
 have:=ke_len r l l.length (Nat.le_refl _)
 rwa [List.take_length] at this
theorem kp_loop (b:Bool) (r:Rng) (l:List Rec) (hl:isLog l=true) (k:Nat):LoopOk Tryz.prog 22 6 (loopAt Tryz.prog 22 6) ⟨kpT b l (ke r (l.take k)) k,kpM r (ke r (l.take k)),[]⟩ (T.map (lout jX (kpS r (ke r l))) (.ret ())):=by
 refine loop_vcH (o:=fun _=>.ret ()) (stT:=fun k=>kpT b l (ke r (l.take k)) k) (stM:=fun k=>kpM r (ke r (l.take k))) Tryz.mixed (fun _=>rfl) (fun k=>(vcKpL_eq b r l k).mpr ?_) k
 unfold vcKpL
 have hn:=log_len hl
 by_cases h:k<l.length
 · obtain ⟨h1,h2⟩:=ke_len r l k (by omega)
   have hz:decide ((k:Int)<l.length)=true:=by simp;omega
   have hv:=log_val hl h
   have hs:=ke_step (r:=r) h
   have hw:IntKind.i64.wrap ((k:Int)+1)=((k+1:Nat):Int):=by rw [wrap_i64 (by omega) (by omega)];omega
   simp only [hz,Int.toNat_natCast]
   generalize l.getD k default=x at *
   generalize ke r (l.take k)=s at *
   simp
   refine ⟨⟨by omega,by omega⟩,fun hh=>⟨by omega,⟨by omega,by omega⟩,Exists.intro (k+1) ?_⟩,fun hh=>Exists.intro (k+1) ?_⟩
   · have a1:contLe (s.to.length+1) 1 (appRow s.to.length (cellsOf' encU s.to) fun k j=>Ax.get [AV.y (Value.int IntKind.u64 (IntKind.u64.wrap ↑s.out.length))] (k+j)) (cellsOf' encU (s.to++[IntKind.u64.wrap ↑s.out.length])):=app1_le1 (le0_refl _)
     rw [hs]
     simp [Ke.step,hh]
     refine ⟨by omega,hw,app1_le rfl (rec_le (le0_refl _) (le0_refl _) (le0_refl _) (le0_refl _) (le0_refl _)),a1⟩
   · have a1:contLe (s.to.length+1) 1 (appRow s.to.length (cellsOf' encU s.to) fun k j=>Ax.get [AV.y (Value.int IntKind.u64 (IntKind.u64.wrap ↑s.out.length))] (k+j)) (cellsOf' encU (s.to++[IntKind.u64.wrap ↑s.out.length])):=app1_le1 (le0_refl _)
     rw [hs]
     simp [Ke.step,hh]
     refine ⟨by omega,hw,a1⟩
 · have hz:decide ((k:Int)<l.length)=false:=by simp;omega
   rw [List.take_of_length_le (by omega)]
   simp [hz]
   exact fun e=>absurd e h
theorem keep_c (b:Bool) (r:Rng) (l:List Rec) (h1:l.length<=4611686018427387903):(keT r l).Sat (ACall' Tryz.prog 22 [encRs b l,.agg (encG r)] []):=by
 refine ctr_vc (ht:=keH b r l) Tryz.mixed rfl ?_
 rw [vcKeep_eq b r l]
 unfold vcKeep
 cases hl:isLog l
 · simp;omega
 · have hn:=log_len hl
   have lp:=kp_loop b r l hl 0
   rw [List.take_zero] at lp
   obtain ⟨q1,q2⟩:=ke_len' r l
   have hw:IntKind.i64.wrap ((l.length:Int)+1)=(l.length:Int)+1:=wrap_i64 (by omega) (by omega)
   have a1:contLe ((ke r l).to.length+1) 1 (appRow (ke r l).to.length (cellsOf' encU (ke r l).to) fun k j=>Ax.get [AV.y (Value.int IntKind.u64 (IntKind.u64.wrap ↑(ke r l).out.length))] (k+j)) (cellsOf' encU ((ke r l).to++[IntKind.u64.wrap ↑(ke r l).out.length])):=app1_le1 (le0_refl _)
   simp only [hw]
   by_cases hc:chkK r=0
   · simp [hc,lp,Ke.end,a1]
     omega
   · simp [hc];omega
end Go.Proofs.YtckklclehofddaaGreatDoor

namespace Go.Proofs.YtckklclehofddaaGreatDoor
open Go.Ax
set_option maxRecDepth 1000000
end Go.Proofs.YtckklclehofddaaGreatDoor

namespace Go.Proofs.YtckklclehofddaaGreatDoor
open Go.Ax
set_option maxRecDepth 1000000
def coOk (l:List Con) (k:Nat):Bool:=nameOk (l.getD k default).name&&!(decide (0<k)&&!lt (l.getD (k - 1) default).name (l.getD k default).name)
def coFrom (l:List Con) (k:Nat):Bool:=(List.range' k (l.length - k)).all fun j=>coOk l j
theorem coFrom_end {l:List Con} {k:Nat} (h:l.length<=k):coFrom l k=true:=by
 unfold coFrom
 rw [show l.length - k=0 by omega];rfl
theorem coFrom_step {l:List Con} {k:Nat} (h:k<l.length):coFrom l k=(coOk l k&&coFrom l (k+1)):=by
 unfold coFrom
 rw [show l.length - k=(l.length - (k+1))+1 by omega,List.range'_succ];rfl
def isCons (l:List Con):Bool:=coFrom l 0&&decide (l.length<=64)
def coT (b:Bool) (l:List Con) (k:Nat):List AV:=mkT 35 [(0,encCs b l),(2,.s (.bool false)),(5,encCs b l),(6,.y (.int .i64 l.length)),(7,.y (.int .i64 k))]
def coS (b:Bool) (l:List Con) (r:Bool):Exit×List AV×List Blk:=match r with
 | true=>(.exit 0,mkT 35 [(0,encCs b l)],[])
 | false=>(.ret,mkT 35 [(2,.s (.bool false))],[])
def coO (l:List Con) (k:Nat):T Bool:=.ite (coFrom l k) (.ret true) (.ret false)
noncomputable def coHL (l:List Con) (k:Nat):HintsT Tryz.prog:=hh _ noLp (cs1 44 4 2 (nameC (l.getD k default).name) noCs) noOp
def vcCoL (b:Bool) (l:List Con) (k:Nat):Prop :=
 (decide ((k:Int)<(l.length:Int))=true->(true&&decide ((k:Int)<(l.length:Int)))=true/\((l.getD (Int.toNat (k:Int)) default).name=(l.getD k default).name/\True)/\True/\((!nameOk (l.getD k default).name)=true->(coFrom l k=true->False)/\(coFrom l k=false->(false=false/\True)/\True/\true=true))/\((!nameOk (l.getD k default).name)=false->(decide (0<(k:Int))=true->(decide (0<=IntKind.i64.wrap ((k:Int) - 1))&&decide (IntKind.i64.wrap ((k:Int) - 1)<(l.length:Int)))=true/\((!Op.bytesLess (l.getD (Int.toNat (IntKind.i64.wrap ((k:Int) - 1))) default).name.data.toList (l.getD (Int.toNat (k:Int)) default).name.data.toList)=true->(coFrom l k=true->False)/\(coFrom l k=false->(false=false/\True)/\True/\true=true))/\((!Op.bytesLess (l.getD (Int.toNat (IntKind.i64.wrap ((k:Int) - 1))) default).name.data.toList (l.getD (Int.toNat (k:Int)) default).name.data.toList)=false->∃ j:Nat,l.length - j<l.length - k/\(((b=b/\l.length=l.length/\contLe l.length 2 (cellsOf' encC l) (cellsOf' encC l))/\false=false/\(b=b/\l.length=l.length/\contLe l.length 2 (cellsOf' encC l) (cellsOf' encC l))/\(l.length:Int)=(l.length:Int)/\IntKind.i64.wrap ((k:Int)+1)=(j:Int)/\True)/\True/\true=true)/\true=true/\(coFrom l j=true->(coFrom l k=true->true=true)/\(coFrom l k=false->true=false))/\(coFrom l j=false->(coFrom l k=true->false=true)/\(coFrom l k=false->false=false))))/\(decide (0<(k:Int))=false->∃ j:Nat,l.length - j<l.length - k/\(((b=b/\l.length=l.length/\contLe l.length 2 (cellsOf' encC l) (cellsOf' encC l))/\false=false/\(b=b/\l.length=l.length/\contLe l.length 2 (cellsOf' encC l) (cellsOf' encC l))/\(l.length:Int)=(l.length:Int)/\IntKind.i64.wrap ((k:Int)+1)=(j:Int)/\True)/\True/\true=true)/\true=true/\(coFrom l j=true->(coFrom l k=true->true=true)/\(coFrom l k=false->true=false))/\(coFrom l j=false->(coFrom l k=true->false=true)/\(coFrom l k=false->false=false)))))/\(decide ((k:Int)<(l.length:Int))=false->(coFrom l k=true->((b=b/\l.length=l.length/\contLe l.length 2 (cellsOf' encC l) (cellsOf' encC l))/\True)/\True/\true=true)/\(coFrom l k=false->False))
theorem vcCoL_eq (b:Bool) (l:List Con) (k:Nat):(loopVC Tryz.prog (coHL l k) 44 2 (fun k=>l.length - k) (coT b l) (fun _=>[]) [0] (coO l) (coS b l) k)=vcCoL b l k:=by kernel_rfl
noncomputable def coH (b:Bool) (l:List Con):HintsT Tryz.prog:=hh _ (lp1 44 2 (jobOf (coT b l) (fun _=>[]) [0] (coO l) (coS b l) 0) noLp) noCs noOp
def vcCo (b:Bool) (l:List Con):Prop :=
 (((b=b/\l.length=l.length/\contLe l.length 2 (cellsOf' encC l) (cellsOf' encC l))/\false=false/\(b=b/\l.length=l.length/\contLe l.length 2 (cellsOf' encC l) (cellsOf' encC l))/\(l.length:Int)=(l.length:Int)/\(0:Int)=0/\True)/\True/\true=true)/\LoopOk Tryz.prog 44 2 (loopAt Tryz.prog 44 2) { t:=coT b l 0,m:=[],mv:=[]:St } (T.map (lout [0] (coS b l)) (coO l 0))/\(coFrom l 0=true->decide ((l.length:Int)<=64)=isCons l/\True)/\(coFrom l 0=false->false=isCons l/\True)
theorem vcCo_eq (b:Bool) (l:List Con):(ctrVC Tryz.prog (coH b l) 44 [encCs b l] [] (boolR (isCons l)))=vcCo b l:=by kernel_rfl
def crT (b:Bool) (l:List Con) (k:Nat):List AV:=mkT 40 [(0,encCs b l),(2,.s (.bool false)),(3,.y (.int .i64 k))]
def crS (r:Bool):Exit×List AV×List Blk:=match r with
 | true=>(.exit 0,mkT 40 [],[])
 | false=>(.ret,mkT 40 [(2,.s (.bool false))],[])
noncomputable def crHL (l:List Con) (k:Nat):HintsT Tryz.prog:=hh _ noLp (cs1 66 6 5 (nmC (l.getD k default).name) noCs) noOp
def vcCrL (b:Bool) (l:List Con) (k:Nat):Prop :=
 (decide ((k:Int)<(l.length:Int))=true->(true&&decide ((k:Int)<(l.length:Int)))=true/\((l.getD (Int.toNat (k:Int)) default).name=(l.getD k default).name/\True)/\True/\((!nameOk (l.getD k default).name)=true->(coFrom l k=true->False)/\(coFrom l k=false->(false=false/\True)/\True/\true=true))/\((!nameOk (l.getD k default).name)=false->(decide (0<(k:Int))=true->(decide (0<=IntKind.i64.wrap ((k:Int) - 1))&&decide (IntKind.i64.wrap ((k:Int) - 1)<(l.length:Int)))=true/\(true&&decide ((k:Int)<(l.length:Int)))=true/\((!Op.bytesLess (l.getD (Int.toNat (IntKind.i64.wrap ((k:Int) - 1))) default).name.data.toList (l.getD (Int.toNat (k:Int)) default).name.data.toList)=true->(coFrom l k=true->False)/\(coFrom l k=false->(false=false/\True)/\True/\true=true))/\((!Op.bytesLess (l.getD (Int.toNat (IntKind.i64.wrap ((k:Int) - 1))) default).name.data.toList (l.getD (Int.toNat (k:Int)) default).name.data.toList)=false->∃ j:Nat,l.length - j<l.length - k/\(((b=b/\l.length=l.length/\contLe l.length 2 (cellsOf' encC l) (cellsOf' encC l))/\false=false/\IntKind.i64.wrap ((k:Int)+1)=(j:Int)/\True)/\True/\true=true)/\true=true/\(coFrom l j=true->(coFrom l k=true->true=true)/\(coFrom l k=false->true=false))/\(coFrom l j=false->(coFrom l k=true->false=true)/\(coFrom l k=false->false=false))))/\(decide (0<(k:Int))=false->∃ j:Nat,l.length - j<l.length - k/\(((b=b/\l.length=l.length/\contLe l.length 2 (cellsOf' encC l) (cellsOf' encC l))/\false=false/\IntKind.i64.wrap ((k:Int)+1)=(j:Int)/\True)/\True/\true=true)/\true=true/\(coFrom l j=true->(coFrom l k=true->true=true)/\(coFrom l k=false->true=false))/\(coFrom l j=false->(coFrom l k=true->false=true)/\(coFrom l k=false->false=false)))))/\(decide ((k:Int)<(l.length:Int))=false->(coFrom l k=true->True/\True/\true=true)/\(coFrom l k=false->False))
theorem vcCrL_eq (b:Bool) (l:List Con) (k:Nat):(loopVC Tryz.prog (crHL l k) 66 4 (fun k=>l.length - k) (crT b l) (fun _=>[]) [0] (coO l) crS k)=vcCrL b l k:=by kernel_rfl
noncomputable def crH (b:Bool) (l:List Con):HintsT Tryz.prog:=hh _ (lp1 66 4 (jobOf (crT b l) (fun _=>[]) [0] (coO l) crS 0) noLp) noCs noOp
def vcCr (b:Bool) (l:List Con):Prop :=
 (decide (64<(l.length:Int))=true->false=isCons l/\True)/\(decide (64<(l.length:Int))=false->(((b=b/\l.length=l.length/\contLe l.length 2 (cellsOf' encC l) (cellsOf' encC l))/\false=false/\(0:Int)=0/\True)/\True/\true=true)/\LoopOk Tryz.prog 66 4 (loopAt Tryz.prog 66 4) { t:=crT b l 0,m:=[],mv:=[]:St } (T.map (lout [0] crS) (coO l 0))/\(coFrom l 0=true->true=isCons l/\True)/\(coFrom l 0=false->false=isCons l/\True))
theorem vcCr_eq (b:Bool) (l:List Con):(ctrVC Tryz.prog (crH b l) 66 [encCs b l] [] (boolR (isCons l)))=vcCr b l:=by kernel_rfl
def eqN (a b:ByteArray):Bool:=a.data.toList==b.data.toList
def findC (l:List Con) (s:ByteArray):Option Con:=l.find? fun x=>eqN x.name s
def fnR (s:ByteArray):AV:=.fn (.func 106) [] [.ip false 1 (get [.y (.string s)])]
def rxT (b:Bool) (s:ByteArray) (l:List Con) (k:Nat):List AV:=mkT 19 [(0,encCs b l),(1,fnR s),(4,.s (.int .i64 0)),(7,.y (.int .i64 l.length)),(8,.y (.int .i64 k))]
def rxS (r:Bool×Nat):Exit×List AV×List Blk:=match r.1 with
 | true=>(.ret,mkT 19 [(4,.y (.int .i64 r.2))],[])
 | false=>(.exit 0,mkT 19 [],[])
def inC (l:List Con) (s:ByteArray):Bool:=l.any fun x=>eqN x.name s
def rxO (l:List Con) (s:ByteArray) (k:Nat):T (Bool×Nat):=.ite (inC (l.drop k) s) (.ret (true,k+(l.drop k).findIdx fun x=>eqN x.name s)) (.ret (false,0))
def vcRxL (b:Bool) (s:ByteArray) (l:List Con) (k:Nat):Prop :=
 (decide ((↑k:Int)<(↑(List.length l):Int))=true->(true&&decide ((↑k:Int)<(↑(List.length l):Int)))=true/\(((List.getD l (Int.toNat (↑k:Int)) (@default Con instInhabitedCon)).name.data.toList==s.data.toList)=true->(inC (List.drop k l) s=true->((↑k:Int)=(↑(k+List.findIdx (fun (x:Con)=>eqN x.name s) (List.drop k l)):Int)/\True)/\True/\true=true)/\(inC (List.drop k l) s=false->False))/\(((List.getD l (Int.toNat (↑k:Int)) (@default Con instInhabitedCon)).name.data.toList==s.data.toList)=false->∃ (j:Nat),List.length l - j<List.length l - k/\(((b=b/\List.length l=List.length l/\contLe (List.length l) (2:Nat) (cellsOf' encC l) (cellsOf' encC l))/\(True/\(false=false/\(1:Nat)<=(1:Nat)/\cellLe (1:Nat) (Ax.get [AV.y (Value.string s)]) (Ax.get [AV.y (Value.string s)]))/\True)/\(0:Int)=(0:Int)/\(↑(List.length l):Int)=(↑(List.length l):Int)/\IntKind.wrap IntKind.i64 ((↑k:Int)+(1:Int))=(↑j:Int)/\True)/\True/\true=true)/\true=true/\(inC (List.drop j l) s=true->(inC (List.drop k l) s=true->(true,j+List.findIdx (fun (x:Con)=>eqN x.name s) (List.drop j l))=(true,k+List.findIdx (fun (x:Con)=>eqN x.name s) (List.drop k l)))/\(inC (List.drop k l) s=false->(true,j+List.findIdx (fun (x:Con)=>eqN x.name s) (List.drop j l))=(false,(0:Nat))))/\(inC (List.drop j l) s=false->(inC (List.drop k l) s=true->(false,(0:Nat))=(true,k+List.findIdx (fun (x:Con)=>eqN x.name s) (List.drop k l)))/\(inC (List.drop k l) s=false->(false,(0:Nat))=(false,(0:Nat))))))/\(decide ((↑k:Int)<(↑(List.length l):Int))=false->(inC (List.drop k l) s=true->False)/\(inC (List.drop k l) s=false->True/\True/\true=true))
theorem vcRxL_eq (b:Bool) (s:ByteArray) (l:List Con) (k:Nat):(loopVC Tryz.prog (hT _) 80 2 (fun k=>l.length - k) (rxT b s l) (fun _=>[]) [0] (rxO l s) rxS k)=vcRxL b s l k:=by kernel_rfl
noncomputable def rxH (b:Bool) (s:ByteArray) (l:List Con):HintsT Tryz.prog:=hh _ (lp1 80 2 (jobOf (rxT b s l) (fun _=>[]) [0] (rxO l s) rxS 0) noLp) noCs noOp
def readO (l:List Con) (s:ByteArray):Int:=((findC l s).getD default).off
def rdR (l:List Con) (s:ByteArray):T An:=.ret (.tup [.y (.int .u64 (readO l s)),.y (.bool (inC l s))],[],[])
def vcRead (b:Bool) (s:ByteArray) (l:List Con):Prop :=
 (((b=b/\List.length l=List.length l/\contLe (List.length l) (2:Nat) (cellsOf' encC l) (cellsOf' encC l))/\(True/\(false=false/\(1:Nat)<=(1:Nat)/\cellLe (1:Nat) (fun (j:Nat)=>Ax.get [AV.y (Value.string s)] ((0:Nat)+j)) (Ax.get [AV.y (Value.string s)]))/\True)/\(0:Int)=(0:Int)/\(↑(List.length l):Int)=(↑(List.length l):Int)/\(0:Int)=(0:Int)/\True)/\True/\true=true)/\LoopOk Tryz.prog (80:Nat) (2:Nat) (loopAt Tryz.prog (80:Nat) (2:Nat)) { t:=rxT b s l (0:Nat),m:=[],mv:=[]:St } (T.map (lout [(0:Nat)] rxS) (rxO l s (0:Nat)))/\(inC (List.drop (0:Nat) l) s=true->true=true/\True/\(false=true->((0:Int)=readO l s/\false=inC l s/\True)/\True)/\(false=false->(true&&decide ((↑((0:Nat)+List.findIdx (fun (x:Con)=>eqN x.name s) (List.drop (0:Nat) l)):Int)<(↑(List.length l):Int)))=true/\((List.getD l (Int.toNat (↑((0:Nat)+List.findIdx (fun (x:Con)=>eqN x.name s) (List.drop (0:Nat) l)):Int)) (@default Con instInhabitedCon)).off=readO l s/\true=inC l s/\True)/\True))/\(inC (List.drop (0:Nat) l) s=false->true=true/\True/\((0:Int)=readO l s/\false=inC l s/\True)/\True)
theorem vcRead_eq (b:Bool) (s:ByteArray) (l:List Con):(ctrVC Tryz.prog (rxH b s l) 90 [encCs b l,.y (.string s)] [] (rdR l s))=vcRead b s l:=by kernel_rfl
def rrT (b:Bool) (s:ByteArray) (l:List Con) (k:Nat):List AV:=mkT 25 [(0,encCs b l),(1,.y (.string s)),(6,.y (.int .i64 k))]
def rrS (r:Bool×Int):Exit×List AV×List Blk:=match r.1 with
 | true=>(.ret,mkT 25 [(4,.y (.int .u64 r.2)),(5,.s (.bool true))],[])
 | false=>(.exit 0,mkT 25 [],[])
def rrO (l:List Con) (s:ByteArray) (k:Nat):T (Bool×Int):=.ite (inC (l.drop k) s) (.ret (true,readO (l.drop k) s)) (.ret (false,0))
def vcRrL (b:Bool) (s:ByteArray) (l:List Con) (k:Nat):Prop :=
 (decide ((↑k:Int)<(↑(List.length l):Int))=true->(true&&decide ((↑k:Int)<(↑(List.length l):Int)))=true/\(((List.getD l (Int.toNat (↑k:Int)) (@default Con instInhabitedCon)).name.data.toList==s.data.toList)=true->(true&&decide ((↑k:Int)<(↑(List.length l):Int)))=true/\(inC (List.drop k l) s=true->((List.getD l (Int.toNat (↑k:Int)) (@default Con instInhabitedCon)).off=readO (List.drop k l) s/\true=true/\True)/\True/\true=true)/\(inC (List.drop k l) s=false->False))/\(((List.getD l (Int.toNat (↑k:Int)) (@default Con instInhabitedCon)).name.data.toList==s.data.toList)=false->∃ (j:Nat),List.length l - j<List.length l - k/\(((b=b/\List.length l=List.length l/\contLe (List.length l) (2:Nat) (cellsOf' encC l) (cellsOf' encC l))/\s=s/\IntKind.wrap IntKind.i64 ((↑k:Int)+(1:Int))=(↑j:Int)/\True)/\True/\true=true)/\true=true/\(inC (List.drop j l) s=true->(inC (List.drop k l) s=true->(true,readO (List.drop j l) s)=(true,readO (List.drop k l) s))/\(inC (List.drop k l) s=false->(true,readO (List.drop j l) s)=(false,(0:Int))))/\(inC (List.drop j l) s=false->(inC (List.drop k l) s=true->(false,(0:Int))=(true,readO (List.drop k l) s))/\(inC (List.drop k l) s=false->(false,(0:Int))=(false,(0:Int))))))/\(decide ((↑k:Int)<(↑(List.length l):Int))=false->(inC (List.drop k l) s=true->False)/\(inC (List.drop k l) s=false->True/\True/\true=true))
theorem vcRrL_eq (b:Bool) (s:ByteArray) (l:List Con) (k:Nat):(loopVC Tryz.prog (hT _) 75 2 (fun k=>l.length - k) (rrT b s l) (fun _=>[]) [0] (rrO l s) rrS k)=vcRrL b s l k:=by kernel_rfl
noncomputable def rrH (b:Bool) (s:ByteArray) (l:List Con):HintsT Tryz.prog:=hh _ (lp1 75 2 (jobOf (rrT b s l) (fun _=>[]) [0] (rrO l s) rrS 0) noLp) noCs noOp
def vcRr (b:Bool) (s:ByteArray) (l:List Con):Prop :=
 (((b=b/\l.length=l.length/\contLe l.length 2 (cellsOf' encC l) (cellsOf' encC l))/\s=s/\(0:Int)=0/\True)/\True/\true=true)/\LoopOk Tryz.prog 75 2 (loopAt Tryz.prog 75 2) { t:=rrT b s l 0,m:=[],mv:=[]:St } (T.map (lout [0] rrS) (rrO l s 0))/\(inC (List.drop 0 l) s=true->(readO (List.drop 0 l) s=readO l s/\true=inC l s/\True)/\True)/\(inC (List.drop 0 l) s=false->(0=readO l s/\false=inC l s/\True)/\True)
theorem vcRr_eq (b:Bool) (s:ByteArray) (l:List Con):(ctrVC Tryz.prog (rrH b s l) 75 [encCs b l,.y (.string s)] [] (rdR l s))=vcRr b s l:=by kernel_rfl
def elemO (to:List Int) (o:Int):Int:=to.getD (min o (to.length - 1)).toNat 0
def u64R (k:Int):T An:=.ret (.y (.int .u64 k),[],[])
def vcOf (b:Bool) (to:List Int) (o:Int):Prop :=
 (decide (0<=if IntKind.u64.wrap (IntKind.i64.wrap ((to.length:Int) - 1))<o then IntKind.u64.wrap (IntKind.i64.wrap ((to.length:Int) - 1)) else o)&&decide ((if IntKind.u64.wrap (IntKind.i64.wrap ((to.length:Int) - 1))<o then IntKind.u64.wrap (IntKind.i64.wrap ((to.length:Int) - 1)) else o)<(to.length:Int)))=true/\to.getD (Int.toNat (if IntKind.u64.wrap (IntKind.i64.wrap ((to.length:Int) - 1))<o then IntKind.u64.wrap (IntKind.i64.wrap ((to.length:Int) - 1)) else o)) 0=elemO to o/\True
theorem vcOf_eq (b:Bool) (to:List Int) (o:Int):(ctrVC Tryz.prog (hT _) 53 [encUs b to,.y (.int .u64 o)] [] (u64R (elemO to o)))=vcOf b to o:=by kernel_rfl
def vcEl (b:Bool) (to:List Int) (o:Int):Prop :=
 (decide (IntKind.u64.wrap (to.length:Int)<=o)=true->(decide (0<=IntKind.i64.wrap ((to.length:Int) - 1))&&decide (IntKind.i64.wrap ((to.length:Int) - 1)<(to.length:Int)))=true/\to.getD (Int.toNat (IntKind.i64.wrap ((to.length:Int) - 1))) 0=elemO to o/\True)/\(decide (IntKind.u64.wrap (to.length:Int)<=o)=false->(decide (0<=IntKind.i64.wrap o)&&decide (IntKind.i64.wrap o<(to.length:Int)))=true/\to.getD (Int.toNat (IntKind.i64.wrap o)) 0=elemO to o/\True)
theorem vcEl_eq (b:Bool) (to:List Int) (o:Int):(ctrVC Tryz.prog (hT _) 77 [encUs b to,.y (.int .u64 o)] [] (u64R (elemO to o)))=vcEl b to o:=by kernel_rfl
end Go.Proofs.YtckklclehofddaaGreatDoor

namespace Go.Proofs.YtckklclehofddaaGreatDoor
open Go.Ax
set_option maxRecDepth 1000000
theorem co_loop (b:Bool) (l:List Con) (hl:l.length<=9223372036854775806) (k:Nat):LoopOk Tryz.prog 44 2 (loopAt Tryz.prog 44 2) ⟨coT b l k,[],[]⟩ ((coO l k).map (lout [0] (coS b l))):=by
 refine loop_vcH (ht:=coHL l) Tryz.mixed (fun _=>rfl) (fun k=>(vcCoL_eq b l k).mpr ?_) k
 unfold vcCoL
 simp
 refine ⟨fun h=>?_,fun h=>by simp [coFrom_end h]⟩
 rw [coFrom_step h]
 have e1:IntKind.i64.wrap ((k:Int)+1)=((k+1:Nat):Int):=by rw [wrap_i64 (by omega) (by omega)];omega
 rw [e1]
 rcases Nat.eq_zero_or_pos k with rfl | hk
 · simp [coOk]
   generalize l[0]?.getD default=x
   cases nameOk x.name<;>simp
   all_goals repeat' with_reducible apply And.intro
   all_goals first | omega | exact ⟨1,by omega,by simp,by grind⟩
 · have e2:IntKind.i64.wrap ((k:Int) - 1)=((k - 1:Nat):Int):=by rw [wrap_i64 (by omega) (by omega)];omega
   rw [e2]
   simp [coOk,lt,hk]
   generalize l[k]?.getD default=x
   generalize l[k - 1]?.getD default=y
   generalize Op.bytesLess y.name.data.toList x.name.data.toList=q
   cases nameOk x.name<;>cases q<;>simp<;>(try omega)
   all_goals repeat' with_reducible apply And.intro
   all_goals first | omega | (intro h0;exact absurd h0 (by omega)) | exact ⟨k+1,by omega,by simp,by grind⟩
theorem co_c (b:Bool) (l:List Con) (hl:l.length<=9223372036854775806):(boolR (isCons l)).Sat (ACall' Tryz.prog 44 [encCs b l] []):=by
 refine ctr_vc (ht:=coH b l) Tryz.mixed rfl ?_
 rw [vcCo_eq b l]
 unfold vcCo
 have:=co_loop b l hl 0
 simp [this,isCons]
 grind
theorem cr_loop (b:Bool) (l:List Con) (hl:l.length<=9223372036854775806) (k:Nat):LoopOk Tryz.prog 66 4 (loopAt Tryz.prog 66 4) ⟨crT b l k,[],[]⟩ ((coO l k).map (lout [0] crS)):=by
 refine loop_vcH (ht:=crHL l) Tryz.mixed (fun _=>rfl) (fun k=>(vcCrL_eq b l k).mpr ?_) k
 unfold vcCrL
 simp
 refine ⟨fun h=>?_,fun h=>by simp [coFrom_end h]⟩
 rw [coFrom_step h]
 have e1:IntKind.i64.wrap ((k:Int)+1)=((k+1:Nat):Int):=by rw [wrap_i64 (by omega) (by omega)];omega
 rw [e1]
 rcases Nat.eq_zero_or_pos k with rfl | hk
 · simp [coOk]
   generalize l[0]?.getD default=x
   cases nameOk x.name<;>simp
   all_goals repeat' with_reducible apply And.intro
   all_goals first | omega | exact ⟨1,by omega,by simp,by grind⟩
 · have e2:IntKind.i64.wrap ((k:Int) - 1)=((k - 1:Nat):Int):=by rw [wrap_i64 (by omega) (by omega)];omega
   rw [e2]
   simp [coOk,lt,hk]
   generalize l[k]?.getD default=x
   generalize l[k - 1]?.getD default=y
   generalize Op.bytesLess y.name.data.toList x.name.data.toList=q
   cases nameOk x.name<;>cases q<;>simp<;>(try omega)
   all_goals repeat' with_reducible apply And.intro
   all_goals first | omega | (intro h0;exact absurd h0 (by omega)) | exact ⟨k+1,by omega,by simp,by grind⟩
theorem cr_c (b:Bool) (l:List Con) (hl:l.length<=9223372036854775806):(boolR (isCons l)).Sat (ACall' Tryz.prog 66 [encCs b l] []):=by
 refine ctr_vc (ht:=crH b l) Tryz.mixed rfl ?_
 rw [vcCr_eq b l]
 unfold vcCr
 have:=cr_loop b l hl 0
 simp [this,isCons]
 grind
theorem inC_nil (s:ByteArray):inC [] s=false:=rfl
theorem inC_cons (y:Con) (l:List Con) (s:ByteArray):inC (y::l) s=(eqN y.name s||inC l s):=rfl
theorem readO_cons (y:Con) (l:List Con) (s:ByteArray):readO (y::l) s=if eqN y.name s then y.off else readO l s:=by
 unfold readO findC
 rw [List.find?_cons]
 split<;>simp_all
theorem rx_loop (b:Bool) (s:ByteArray) (l:List Con) (hl:l.length<=9223372036854775806) (k:Nat):LoopOk Tryz.prog 80 2 (loopAt Tryz.prog 80 2) ⟨rxT b s l k,[],[]⟩ ((rxO l s k).map (lout [0] rxS)):=by
 refine loop_vc Tryz.mixed (fun _=>rfl) (fun k=>(vcRxL_eq b s l k).mpr ?_) k
 unfold vcRxL
 simp
 refine ⟨fun h=>?_,fun h=>by simp [drop_end h,inC_nil]⟩
 simp (disch:=omega) only [wrap_i64]
 rw [drop_cons h]
 simp only [inC_cons,List.findIdx_cons]
 generalize l[k]?.getD default=y
 by_cases h1:y.name.data=s.data
 · simp [eqN,h1,h]
 · simp [eqN,h1,h,cast_succ_eq]
   exact ⟨k+1,by omega,rfl,by grind⟩
theorem at_find:∀ (l:List Con) (s:ByteArray),inC l s=true->(l.findIdx fun x=>eqN x.name s)<l.length/\(l.getD (l.findIdx fun x=>eqN x.name s) default).off=readO l s
 | [],s,h=>by simp [inC_nil] at h
 | y::l,s,h=>by
   rw [inC_cons] at h
   rw [readO_cons,List.findIdx_cons]
   cases hy:eqN y.name s
   · rw [hy,Bool.false_or] at h
     have:=at_find l s h
     simpa using this
   · simp
theorem read_none:∀ (l:List Con) (s:ByteArray),inC l s=false->readO l s=0
 | [],s,_=>rfl
 | y::l,s,h=>by
   rw [inC_cons,Bool.or_eq_false_iff] at h
   rw [readO_cons,h.1]
   simpa using read_none l s h.2
theorem read_c (b:Bool) (s:ByteArray) (l:List Con) (hl:l.length<=9223372036854775806):(rdR l s).Sat (ACall' Tryz.prog 90 [encCs b l,.y (.string s)] []):=by
 refine ctr_vc (ht:=rxH b s l) Tryz.mixed rfl ?_
 rw [vcRead_eq b s l]
 unfold vcRead
 have lp:=rx_loop b s l hl 0
 cases hi:inC l s
 · have:=read_none l s hi
   simp [lp,hi,this]
 · have:=at_find l s hi
   simp [lp,hi,this.1] at this ⊢
   exact this
theorem rr_loop (b:Bool) (s:ByteArray) (l:List Con) (hl:l.length<=9223372036854775806) (k:Nat):LoopOk Tryz.prog 75 2 (loopAt Tryz.prog 75 2) ⟨rrT b s l k,[],[]⟩ ((rrO l s k).map (lout [0] rrS)):=by
 refine loop_vc Tryz.mixed (fun _=>rfl) (fun k=>(vcRrL_eq b s l k).mpr ?_) k
 unfold vcRrL
 simp
 refine ⟨fun h=>?_,fun h=>by simp [drop_end h,inC_nil]⟩
 simp (disch:=omega) only [wrap_i64]
 rw [drop_cons h]
 simp only [inC_cons,readO_cons]
 generalize l[k]?.getD default=y
 by_cases h1:y.name.data=s.data
 · simp [eqN,h1,h]
 · simp [eqN,h1,h,cast_succ_eq]
   exact ⟨k+1,by omega,rfl,by grind⟩
theorem rr_c (b:Bool) (s:ByteArray) (l:List Con) (hl:l.length<=9223372036854775806):(rdR l s).Sat (ACall' Tryz.prog 75 [encCs b l,.y (.string s)] []):=by
 refine ctr_vc (ht:=rrH b s l) Tryz.mixed rfl ?_
 rw [vcRr_eq b s l]
 unfold vcRr
 have lp:=rr_loop b s l hl 0
 cases hi:inC l s
 · have:=read_none l s hi
   simp [lp,hi,this]
 · simp [lp,hi]
def offOk (o:Int):Prop:=0<=o/\o<18446744073709551616
theorem of_c (b:Bool) (to:List Int) (o:Int) (h0:0<to.length) (hl:to.length<=9223372036854775806) (ho:offOk o):(u64R (elemO to o)).Sat (ACall' Tryz.prog 53 [encUs b to,.y (.int .u64 o)] []):=by
 refine ctr_vc (ht:=hT _) Tryz.mixed rfl ?_
 rw [vcOf_eq b to o]
 unfold vcOf
 have h1:=ho.1
 have h2:=ho.2
 have e:IntKind.u64.wrap (IntKind.i64.wrap ((to.length:Int) - 1))=(to.length:Int) - 1:=by
  rw [wrap_i64 (by omega) (by omega),wrap_u64 (by omega) (by omega)]
 rw [e]
 unfold elemO
 have hm:(if (to.length:Int) - 1<o then (to.length:Int) - 1 else o)=min o (to.length - 1):=by
  rw [Int.min_def];split<;>split<;>omega
 rw [hm]
 have h3:(0:Int)<=min o (to.length - 1):=by rw [Int.min_def];split<;>omega
 have h4:min o ((to.length:Int) - 1)<to.length:=by rw [Int.min_def];split<;>omega
 refine ⟨?_,rfl,trivial⟩
 rw [decide_eq_true h3,decide_eq_true h4];rfl
theorem el_c (b:Bool) (to:List Int) (o:Int) (h0:0<to.length) (hl:to.length<=9223372036854775806) (ho:offOk o):(u64R (elemO to o)).Sat (ACall' Tryz.prog 77 [encUs b to,.y (.int .u64 o)] []):=by
 refine ctr_vc (ht:=hT _) Tryz.mixed rfl ?_
 rw [vcEl_eq b to o]
 unfold vcEl
 have h1:=ho.1
 have h2:=ho.2
 have e:IntKind.u64.wrap (to.length:Int)=to.length:=by rw [wrap_u64 (by omega) (by omega)]
 have e1:IntKind.i64.wrap ((to.length:Int) - 1)=(to.length:Int) - 1:=by rw [wrap_i64 (by omega) (by omega)]
 rw [e,e1]
 unfold elemO
 refine ⟨fun h=>?_,fun h=>?_⟩
 · have h:=of_decide_eq_true h
   have hm:min o ((to.length:Int) - 1)=to.length - 1:=by rw [Int.min_def];split<;>omega
   rw [hm]
   refine ⟨?_,rfl,trivial⟩
   rw [decide_eq_true (by omega),decide_eq_true (by omega)];rfl
 · have h:=of_decide_eq_false h
   have hm:min o ((to.length:Int) - 1)=o:=by rw [Int.min_def];split<;>omega
   have e2:IntKind.i64.wrap o=o:=by rw [wrap_i64 (by omega) (by omega)]
   rw [hm,e2]
   refine ⟨?_,rfl,trivial⟩
   rw [decide_eq_true (by omega),decide_eq_true (by omega)];rfl
noncomputable def coC (b:Bool) (l:List Con):Ctr Tryz.prog:=⟨44,[encCs b l],[],.need (l.length<=9223372036854775806) (boolR (isCons l)),T.Sat.need fun h=>co_c b l h⟩
noncomputable def crC (b:Bool) (l:List Con):Ctr Tryz.prog:=⟨66,[encCs b l],[],.need (l.length<=9223372036854775806) (boolR (isCons l)),T.Sat.need fun h=>cr_c b l h⟩
noncomputable def rdC (b:Bool) (l:List Con) (s:ByteArray):Ctr Tryz.prog:=⟨90,[encCs b l,.y (.string s)],[],.need (l.length<=9223372036854775806) (rdR l s),T.Sat.need fun h=>read_c b s l h⟩
noncomputable def rrC (b:Bool) (l:List Con) (s:ByteArray):Ctr Tryz.prog:=⟨75,[encCs b l,.y (.string s)],[],.need (l.length<=9223372036854775806) (rdR l s),T.Sat.need fun h=>rr_c b s l h⟩
noncomputable def ofC (b:Bool) (to:List Int) (o:Int):Ctr Tryz.prog:=⟨53,[encUs b to,.y (.int .u64 o)],[],.need (0<to.length/\to.length<=9223372036854775806/\offOk o) (u64R (elemO to o)),T.Sat.need fun h=>of_c b to o h.1 h.2.1 h.2.2⟩
noncomputable def elC (b:Bool) (to:List Int) (o:Int):Ctr Tryz.prog:=⟨77,[encUs b to,.y (.int .u64 o)],[],.need (0<to.length/\to.length<=9223372036854775806/\offOk o) (u64R (elemO to o)),T.Sat.need fun h=>el_c b to o h.1 h.2.1 h.2.2⟩
end Go.Proofs.YtckklclehofddaaGreatDoor
