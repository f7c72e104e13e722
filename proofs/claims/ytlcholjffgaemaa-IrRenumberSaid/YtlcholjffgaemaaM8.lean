/-
Texts of the proof, part 8: Rg Za Zb Ze Zh Rh Rj Rk Rl Zs Zk Zl Zu Zw W1 W3 Rm Rn Ro Rp Rq Rs Rt Ru Rv Rw Rx Ry Rz S1 S2.
No statement of the program is proved here.
-/
import Derived.Test.YtlcholjffgaemaaM7
set_option linter.unusedVariables false
set_option linter.unusedSectionVars false
set_option linter.unusedSimpArgs false
set_option maxHeartbeats 1000000
namespace Go.Abs
open Go Go.Proofs
noncomputable section
structure K26 where
 nm:ByteArray
 W:List Int
 a:List Arr
 t:List qbp
 rt:List Int
 z:Fn
 m:qce->Option Int
 out:List qac
 kd:Int
 cd:Int
 pp:Int
 un:Int
 ln:Int
 ord:List Int
 bl:List qac
def Y4(a b c d:Int):Unit×(Unit×(Unit×(Unit×(Unit×((Unit×Unit)×(Unit×(Unit×(Unit×(Int×(Int×(Int×(Int×Unit)))))))))))):=((),((),((),((),((),(((),()),((),((),((),(a,(b,(c,(d,())))))))))))))
def Y2(a b:Int):Unit×(Unit×(Unit×(Unit×(Unit×((Unit×Unit)×(Unit×(Unit×(Unit×(Int×(Int×Unit)))))))))):=((),((),((),((),((),(((),()),((),((),((),(a,(b,())))))))))))
abbrev X9:=Unit×(Unit×(Int×(Int×(Unit×(Unit×(Int×(Int×(Int×Unit))))))))
abbrev T26:=F67×(Fn×((qce->Option Int)×((Unit×Unit)×(N68×(List qac×(X9×(List Int×(List Int×(List Arr×(List qbp×(List Int×(List qac×(List Int×((Unit×Unit)×(List Int×(List qag×(List qaj×(List Int×((qce->Option Int)×Unit)))))))))))))))))))
def H26(K:K26)(s:RS)(ps:List Int)(is:List qag)(to:List qaj)(rs:List Int):T26:=
 (f67 K.nm,(K.z,(K.m,(((),()),((((),((),((),()))),()),(K.out,(((),((),(K.kd,(K.cd,((),((),(K.pp,(K.un,(K.ln,()))))))))),(K.ord,(K.W,(K.a,(K.t,(K.rt,(K.bl,(s.2,(((),()),(ps,(is,(to,(rs,(s.1,()))))))))))))))))))))
theorem qph(l:List Int)(nm W a t rt bl s):q6b (l,((((),((),((),()))),()),b67 nm W a t rt bl s))=grd (room (s.2.length+l.length)) (some ((),((Sp.qgu W l s).1,((((),((),((),()))),()),r67 nm W a t rt bl (Sp.qgu W l s).2)))):=rfl
theorem qvs(K:K26)(hW:K.W.length<=100000)(ps:List Int)(is:List qag)(rs:List Int)(n i:Int):∀(l2:List Edge) (l1:List qaj) (s:RS),qhr K.W s->l1.length+l2.length<=100000->(∀e∈l2,e.args.length<=100000) ->
  qap go26_l3 (Y4 n i ((l1.length+l2.length:Nat):Int) (l1.length:Int),H26 K s ps is (l1++l2.map Sp.qch) rs)=some (Y2 n i,H26 K (qgn (Sp.qkp K.W) l2 s).2 ps is (l1++(qgn (Sp.qkp K.W) l2 s).1.map Sp.qch) rs)
 |[],l1,s,hI,hl,ha=>by
  rw[qa8];unfold go26_l3 H26 Y4 Y2;simp only[qgn,zg7,zh3,zik];simp(maxSteps:=1000000) (disch:=((try dsimp only);omega)) only[↓gsA,gsB]
 |v::l2,l1,s,hI,hl,ha=>by
  simp only[zg1]at hl;have hv:=ha v (zg5 ..);have hr:=hI.room hW hv;have ih:=qvs K hW ps is rs n i l2 (l1++[Sp.qch (Sp.qkp K.W v s).1]) (Sp.qkp K.W v s).2 (qrm K.W v s hI) (by simp only[zg6,zg1,zg7];omega) (fun e he=>ha e (zg8 _ he))
  rw[qa8];have e:=qph v.args K.nm K.W K.a K.t K.rt K.bl s;have eL:=qex K.W v.args s;rw[hr]at e;unfold b67 r67 f67 at e;have step:go26_l3 (Y4 n i ((l1.length+(v::l2).length:Nat):Int) (l1.length:Int),H26 K s ps is (l1++(v::l2).map Sp.qch) rs)=some (.inl (Y4 n i ((l1.length+(v::l2).length:Nat):Int) ((l1.length+1:Nat):Int),H26 K (Sp.qkp K.W v s).2 ps is (l1++Sp.qch (Sp.qkp K.W v s).1::l2.map Sp.qch) rs)):=by
   unfold go26_l3;simp only[H26,Y4,f67,zhg,zg6,zg1,zha,zhe,qco,qfk];rw[show(Sp.qch v).args=.own v.args from rfl];simp only[Sp.qgr,qah,e];simp(maxSteps:=1000000) (disch:=((try dsimp only);omega)) only[↓gsA,gsB]
   simp only[eL,decide_true,ziq,zip,qcw];rfl
  rw[step];simp only[zg6,zg1,zg7,zib,ziy,zg9]at ih;simp only[qgn,zhg,zg1];rw[show l1.length+(l2.length+1)=l1.length+1+l2.length by omega];exact ih
theorem qvt(K:K26)(hW:K.W.length<=100000)(ps:List Int)(to:List qaj)(rs:List Int)(n i:Int):∀(l2:List qau) (l1:List qag) (s:RS),qhr K.W s->l1.length+l2.length<=100000->(∀e∈l2,e.args.length<=100000) ->
  qap go26_l2 (Y4 n i ((l1.length+l2.length:Nat):Int) (l1.length:Int),H26 K s ps (l1++l2.map Sp.qcy) to rs)=some (Y2 n i,H26 K (qgn (Sp.qko K.W) l2 s).2 ps (l1++(qgn (Sp.qko K.W) l2 s).1.map Sp.qcy) to rs)
 |[],l1,s,hI,hl,ha=>by
  rw[qa8];unfold go26_l2 H26 Y4 Y2;simp only[qgn,zg7,zh3,zik];simp(maxSteps:=1000000) (disch:=((try dsimp only);omega)) only[↓gsA,gsB]
 |v::l2,l1,s,hI,hl,ha=>by
  simp only[zg1]at hl;have hv:=ha v (zg5 ..);have hr:=hI.room hW hv;have hI2:=qhk K.W v.args s hI;have hr2:=hI2.room hW (n:=0) (by omega);rw[zh3]at hr2;have ih:=qvt K hW ps to rs n i l2 (l1++[Sp.qcy (Sp.qko K.W v s).1]) (Sp.qko K.W v s).2 (qrl K.W v s hI) (by simp only[zg6,zg1,zg7];omega) (fun e he=>ha e (zg8 _ he))
  rw[qa8];have e:=qph v.args K.nm K.W K.a K.t K.rt K.bl s;have e2:=qs3 v.dest K.nm K.W K.a K.t K.rt K.bl (Sp.qgu K.W v.args s).2;have eL:=qex K.W v.args s;rw[hr]at e;rw[hr2]at e2;unfold b67 r67 f67 at e e2;have step:go26_l2 (Y4 n i ((l1.length+(v::l2).length:Nat):Int) (l1.length:Int),H26 K s ps (l1++(v::l2).map Sp.qcy) to rs)=some (.inl (Y4 n i ((l1.length+(v::l2).length:Nat):Int) ((l1.length+1:Nat):Int),H26 K (Sp.qko K.W v s).2 ps (l1++Sp.qcy (Sp.qko K.W v s).1::l2.map Sp.qcy) to rs)):=by
   unfold go26_l2 go26_j1;simp only[H26,Y4,f67,zhg,zg6,zg1,zha,zhe,qco,qfk];rw[show(Sp.qcy v).args=.own v.args from rfl,show(Sp.qcy v).dest=v.dest from rfl];simp only[Sp.qgr,qah,e,e2];simp(maxSteps:=1000000) (disch:=((try dsimp only);omega)) only[↓gsA,gsB]
   simp only[eL,decide_true,ziq,zip,qcw,zg6,zg1,zha,qco,qfk];simp(maxSteps:=1000000) (disch:=((try dsimp only);omega)) only[↓gsA,gsB]
   simp only[qah,e2,qjd,zg6,zg1,zha,qco,qfk];simp(maxSteps:=1000000) (disch:=((try dsimp only);omega)) only[↓gsA,gsB]
   simp only[eL,decide_true,ziq,zip,qcw,zg6,zg1,zha,qco,qfk];rfl
  rw[step];simp only[zg6,zg1,zg7,zib,ziy,zg9]at ih;simp only[qgn,zhg,zg1];rw[show l1.length+(l2.length+1)=l1.length+1+l2.length by omega];exact ih
def Y1(a b:Int):Unit×(Unit×(Unit×(Unit×(Unit×((Unit×Unit)×(Unit×(Unit×(Int×(Int×Unit))))))))):=((),((),((),((),((),(((),()),((),((),(a,(b,()))))))))))
abbrev T1:=F67×(Fn×((qce->Option Int)×((Unit×Unit)×(N68×(List qac×(List Int×(List Int×(List Arr×(List qbp×(List Int×(List qac×(List Int×((Unit×Unit)×((qce->Option Int)×Unit))))))))))))))
def H1(K:K26)(s:RS):T1:=(f67 K.nm,(K.z,(K.m,(((),()),((((),((),((),()))),()),(K.out,(K.ord,(K.W,(K.a,(K.t,(K.rt,(K.bl,(s.2,(((),()),(s.1,())))))))))))))))
theorem ze9(K:K26)(hW:K.W.length<=100000)(hout:K.out.length<=100000)(ps:List Int)(is:List qag)(to:List Edge)(rs:List Int)(n i:Nat)(hi:i<=100000)(s:RS)(hI:qhr K.W s)(hto:to.length<=100000)(hta:∀e∈to,e.args.length<=100000)(hrs:rs.length<=100000) :
  go26_j2 (Y2 n i,H26 K s ps is (to.map Sp.qch) rs)=some (.inl (Y1 n ((i+1:Nat):Int),H1 { K with out:=K.out++[⟨.own ps,.own is,⟨K.kd,K.cd,.own ((qgn (Sp.qkp K.W) to (Sp.qgu K.W rs s).2).1.map Sp.qch),.own (Sp.qgu K.W rs s).1⟩,K.pp,K.un,K.ln⟩] } (qgn (Sp.qkp K.W) to (Sp.qgu K.W rs s).2).2)):=by
 have e:=qph rs K.nm K.W K.a K.t K.rt K.bl s;have eL:=qex K.W rs s;rw[hI.room hW hrs]at e;have k:=qvs K hW ps is (Sp.qgu K.W rs s).1 n i to [] (Sp.qgu K.W rs s).2 (qhk K.W rs s hI) (by simpa using hto) hta;have k0:((0:Nat):Int)=0:=rfl;simp only[zg7,zg9,zhv,k0]at k;unfold Y4 Y2 H26 f67 at k;unfold b67 r67 f67 at e;unfold go26_j2;simp only[H26,Y2,f67,e];simp(maxSteps:=1000000) (disch:=((try dsimp only);omega)) only[↓gsA,gsB]
 simp only[eL,decide_true,ziq,zip,qcw,zha];rw[k];simp(maxSteps:=1000000) (disch:=((try dsimp only);omega)) only[↓gsA,gsB]
 rfl
def qqb(b:Block):qac:=⟨.gone,.gone,⟨b.term.kind,b.term.cond,.gone,.gone⟩,b.qar,b.qba,b.line⟩
def qns(b:Block):qac:=⟨.own b.params,.own (b.insts.map Sp.qcy),⟨b.term.kind,b.term.cond,.own (b.term.to.map Sp.qch),.own b.term.qa4⟩,b.qar,b.qba,b.line⟩
theorem qtl(W:List Int)(v:Int)(s:RS)(h:v<0):Sp.num W v s=(v,s):=by
 unfold Sp.num;rw[if_pos (.inl h)]
theorem zbo(K:K26)(hW:K.W.length<=100000)(hout:K.out.length<=100000)(b:Block)(hb:SmB b)(b1 b2:List qac)(hbl:K.bl=b1++qns b::b2)(n i:Nat)(hin:i<n)(hn:n<=100000)(ho:K.ord.getD i 0=(b1.length:Int))(hol:K.ord.length=n)(s:RS)(hI:qhr K.W s) :
  go26_l1 (Y1 n i,H1 K s)=some (.inl (Y1 n ((i+1:Nat):Int),H1 { K with m:=qnn K.m (.i (b1.length:Int)) (i:Int),out:=K.out++[qns (Sp.qzx K.W b s).1],bl:=b1++qqb b::b2 } (Sp.qzx K.W b s).2)):=by
 obtain⟨nm,W,a,t,rt,z,m,out,kd,cd,pp,un,ln,ord,bl⟩:=K;simp only at hW hout hbl ho hol hI ⊢;subst hbl;obtain⟨hb1,hb2,hb3,hb4,hb5,hb6⟩:=hb
 let K2:K26:=⟨nm,W,a,t,rt,z,qnn m (.i (b1.length:Int)) (i:Int),out,b.term.kind,b.term.cond,b.qar,b.qba,b.line,ord,b1++qqb b::b2⟩
 have e:=qph b.params nm W a t rt (b1++qqb b::b2) s;have eL:=qex W b.params s;rw[hI.room hW hb1]at e;have k:=qvt K2 hW (Sp.rPs W b s).1 (b.term.to.map Sp.qch) b.term.qa4 n i b.insts [] (Sp.rPs W b s).2 (qzu W b s hI) (by simpa using hb2) hb5;have k0:((0:Nat):Int)=0:=rfl;simp only[zg7,zg9,zhv,k0]at k;have hI2:=qzv W b s hI;have e67:=qs3 b.term.cond nm W a t rt (b1++qqb b::b2) (Sp.rIs W b s).2;rw[show room (Sp.rIs W b s).2.2.length=true from hI2.room hW (n:=0) (by omega)]at e67;have j:=ze9 { K2 with cd:=(Sp.rCd W b s).1 } hW hout (Sp.rPs W b s).1 ((Sp.rIs W b s).1.map Sp.qcy) b.term.to b.term.qa4 n i (by omega) (Sp.rCd W b s).2 (qzw W b s hI) hb3 hb6 hb4;rw[show Sp.qgu W b.params s=Sp.rPs W b s from rfl]at e eL;rw[show qgn (Sp.qko K2.W) b.insts (Sp.rPs W b s).2=Sp.rIs W b s from rfl]at k;rw[show Sp.num W b.term.cond (Sp.rIs W b s).2=Sp.rCd W b s from rfl]at e67;unfold Y4 Y2 H26 f67 at k;unfold b67 r67 f67 qqb at e e67;unfold Y2 H26 f67 at j;dsimp only[K2,qqb]at k j;unfold go26_l1;show(bif decide ((i:Int)<(n:Int))then _ else _)=_;rw[decide_eq_true (show(i:Int)<(n:Int)by omega),cond_true];simp only[H1,Y1,f67,zhe,ho,zg6,zg1,zha,qco,qfk,qns,Sp.qjh,qah];simp(maxSteps:=1000000) (disch:=((try dsimp only);omega)) only[↓gsA,gsB]
 simp only[zg6,zg1,zha,qco,qfk,Sp.qjh,qah];simp(maxSteps:=1000000) (disch:=((try dsimp only);omega)) only[↓gsA,gsB]
 rw[qcw]at e e67;simp only[e,qah];simp only[eL,zg6,zg1,decide_true,ziq,zip,qcw];rw[k];simp only[qah];by_cases hc:0<=b.term.cond
 ·simp only[hc,if_true,e67,qah,zg6,zg1,decide_true,ziq,zip,qcw];rw[j];rfl
 ·have hz:Sp.rCd W b s=(b.term.cond,(Sp.rIs W b s).2):=qtl W _ _ (by omega);rw[hz]at j;simp only[hc,if_false];rw[j];simp only[Sp.qzx,Sp.rTo,Sp.rRs,hz];rfl
end
end Go.Abs
namespace Go.Abs
open Go Go.Proofs
noncomputable section
def sh147:List OSh:=[(.box 41 (.st 3)),(.box 41 (.st 3))]
def sh148:List OSh:=[(.box 30 (.st 6)),(.box 30 (.st 6))]
def sh139:SSh:=⟨[(2,(.ptr 0 0)),(3,(.ptr 1 0))],sh147⟩
def sh140:SSh:=⟨[(2,(.ptr 0 0)),(3,(.ptr 1 0)),(5,(.i .i64))],sh147⟩
def sh141:SSh:=⟨[(4,.b)],[]⟩
def sh142:SSh:=⟨[(2,(.ptr 0 0)),(3,(.ptr 1 0)),(6,(.i .i64))],sh147⟩
def sh143:SSh:=⟨[(2,(.ptr 0 0)),(3,(.ptr 1 0))],sh148⟩
def sh144:SSh:=⟨[(2,(.ptr 0 0)),(3,(.ptr 1 0)),(5,(.i .i64))],sh148⟩
def sh145:SSh:=⟨[(2,(.ptr 0 0)),(3,(.ptr 1 0)),(6,(.i .i64))],sh148⟩
def sh146:SSh:=⟨[(2,(.ptr 0 0)),(3,(.ptr 1 0)),(7,(.i .i64))],sh148⟩
abbrev ty136:=((Unit×(Unit×(Int×Unit)))×(Fn×(Fn×Unit)))
abbrev ty137:=((Unit×(Unit×(Int×Unit)))×(Block×(Block×Unit)))
abbrev ty138:=(ty136⊕(((Unit×(Unit×Unit))×(Fn×(Fn×Unit)))⊕((Bool×Unit)×Unit)))
def ann100:Ann:=(.seq .o (.seq .o .o))
def go100(x0:qau)(x1:qau):(Option (Bool×Unit)):=(bif(decide (x0.op=x1.op))then(bif(decide (x0.dest=x1.dest))then(qak (grd (okB (x0.args.length<=LEN)) (some ((decide (x0.args=x1.args)),()))) (fun r0=>(bif r0.1 then(bif(decide (x0.num=x1.num))then(some ((decide (x0.mem=x1.mem)),()))else(some (false,())))else(some (false,())))))else(some (false,())))else(some (false,())))
theorem run100(x0:qau)(x1:qau):qei (P:=Try.prog) [c39] Try.f100 ann100 [(0,(.st 0)),(1,(.st 0))] [] .b [] (x0,(x1,())) ()=go100 x0 x1:=by kernel_rfl
theorem qo6(b:ByteArray):∀(k i:Nat) (r:List UInt8),i+k=b.size->ByteArray.toList.loop b i r=r.reverse++b.data.toList.drop i
 |0,i,r,h=>by
  unfold ByteArray.toList.loop;rw[if_neg (by omega)];have:b.data.toList.length=b.size:=zit;rw[List.drop_eq_nil_of_le (by omega),zht]
 |k+1,i,r,h=>by
  unfold ByteArray.toList.loop;rw[if_pos (by omega),qo6 b k (i+1) _ (by omega)];have hi:i<b.data.size:=by have:b.data.size=b.size:=rfl;omega
  have hl:i<b.data.toList.length:=by rw[zit];exact hi
  rw[List.drop_eq_getElem_cons hl];have:b.get! i=b.data.toList[i]:=by
   have hi':i<b.size:=hi;simp[ByteArray.get!,hi']
  rw[this];simp
theorem qo7(b:ByteArray):b.toList=b.data.toList:=by
 unfold ByteArray.toList;rw[qo6 b b.size 0 [] (by omega)];simp
theorem bytes_beq(a b:ByteArray):(a.toList==b.toList)=decide (a=b):=by
 rw[qo7,qo7];by_cases h:a=b
 ·subst h;simp
 ·rw[decide_eq_false h];have:a.data.toList≠b.data.toList:=fun e=>h (ByteArray.ext_iff.2 (Array.toList_inj.1 e));simpa using this
theorem qj9{α:Type}[DecidableEq α](z:α){x y:List α}(h:x.length=y.length):((List.range x.length).all fun i=>decide (x.getD i z=y.getD i z))=decide (x=y):=by
 by_cases e:x=y
 ·subst e;simp
 ·rw[decide_eq_false e];have:¬ ∀i,i<x.length->x.getD i z=y.getD i z:=fun hall=>e (zih h fun i h1 h2=>by
   have:=hall i h1;simpa[zg0,h1,h2]using this)
  simp only[Bool.eq_false_iff,ne_eq,zhm,zif,decide_eq_true_eq];exact this
theorem q2d(a b:Arr):((a.name.toList==b.name.toList)&&((decide (a.width=b.width))&&((decide (a.len=b.len))&&((decide (a.kind=b.kind))&&(decide (a.factor=b.factor))))))=decide (a=b):=by
 rw[bytes_beq];cases a;cases b;simp only[Arr.mk.injEq,Bool.decide_and]
theorem qur(a b:qbp):((a.name.toList==b.name.toList)&&((decide (a.width=b.width))&&(a.out==b.out)))=decide (a=b):=by
 rw[bytes_beq];cases a with
 |mk n1 w1 o1=>
  cases b with
  |mk n2 w2 o2=>
   simp only[qbp.mk.injEq,Bool.decide_and];cases o1<;>cases o2<;>rfl
def Sp.qpj(x y:Edge):Bool:=decide (x=y)
def Sp.qk0(x y:qau):Bool:=decide (x=y)
theorem q8v(a b:qau):decide (a=b)=(decide (a.op=b.op)&&(decide (a.dest=b.dest)&&(decide (a.args=b.args)&&(decide (a.num=b.num)&&decide (a.mem=b.mem))))):=by
 cases a;cases b;simp only[qau.mk.injEq,Bool.decide_and]
theorem ok100(a b:qau)(h:a.args.length<=LEN):go100 a b=some (decide (a=b),()):=by
 unfold go100;rw[qas h,q8v];simp only[qah];cases decide (a.op=b.op)<;>cases decide (a.dest=b.dest)<;>cases decide (a.num=b.num)<;>cases decide (a.mem=b.mem)<;>cases decide (a.args=b.args)<;>rfl
def c100:Ctr Try.prog:=qcn 100 Try.f100 Try.func100 [c39] ann100 [(0,(.st 0)),(1,(.st 0))] [] .b [] (fun x _=>grd (okB (x.1.args.length<=LEN)) (some (Sp.qk0 x.1 x.2.1,()))) (fun x _ r h=>FO (run100 x.1 x.2.1) (ok100 x.1 x.2.1) h)
end
end Go.Abs
namespace Go.Abs
open Go Go.Proofs
noncomputable section
def go98_l1:(((List Edge)×(Unit×((List Edge)×(Int×(Int×Unit)))))×Unit)->Option ((((List Edge)×(Unit×((List Edge)×(Int×(Int×Unit)))))×Unit)⊕((Unit×Unit)⊕((Bool×Unit)×Unit))):=(fun r0=>(bif(decide (r0.1.2.2.2.2.1<r0.1.2.2.2.1))then(grd (okB ((0<=r0.1.2.2.2.2.1)/\(r0.1.2.2.2.2.1<(r0.1.2.2.1.length:Int)))) (grd (okB ((0<=r0.1.2.2.2.2.1)/\(r0.1.2.2.2.2.1<(r0.1.1.length:Int)))) (qak (grd (okB ((r0.1.2.2.1.getD r0.1.2.2.2.2.1.toNat Edge.z).args.length<=LEN)) (some ((Sp.qpj (r0.1.2.2.1.getD r0.1.2.2.2.2.1.toNat Edge.z) (r0.1.1.getD r0.1.2.2.2.2.1.toNat Edge.z)),()))) (fun r1=>(bif(!r1.1)then(some (Sum.inr (Sum.inr ((false,()),()))))else(grd (okB (((-9223372036854775808)<=(r0.1.2.2.2.2.1+1))/\((r0.1.2.2.2.2.1+1)<=9223372036854775807))) (some (Sum.inl ((r0.1.1,((),(r0.1.2.2.1,(r0.1.2.2.2.1,((r0.1.2.2.2.2.1+1),()))))),())))))))))else(some (Sum.inr (Sum.inl ((),()))))))
def go98(x0:(List Edge))(x1:(List Edge))(x2:Unit):(Option (Bool×Unit)):=(bif(!(decide ((x0.length:Int)=(x1.length:Int))))then(some (false,()))else(qak (qap (go98_l1) ((x1,((),(x0,((x0.length:Int),(0,()))))),())) (fun z0=>(qjo (fun z1=>(some (true,()))) (fun z1=>(some (z1.1.1,()))) z0))))
def ann59:Ann:=(.seq .o (.join sh139 (.seq .o (.cond (.seq .o .o) .o)) (.join sh139 (.seq .o (.block (.loop sh140 [((.exit 0),sh139),(.ret,sh141)] (.join sh140 (.seq .o (.cond .o .o)) (.join sh140 (.block (.seq .o (.cond (.seq .o .o) .o))) .o))))) (.join ⟨[],[]⟩ (.seq .o (.block (.loop sh142 [((.exit 2),⟨[],[]⟩),(.ret,sh141)] (.join sh142 (.seq .o (.cond .o .o)) (.join sh142 (.block (.seq .o (.cond (.seq .o .o) .o))) .o))))) (.seq .o .o)))))
def go59_l2:ty137->Option (ty137⊕((Unit×Unit)⊕((Bool×Unit)×Unit))):=(fun r2=>(bif(decide (r2.1.2.2.1<(r2.2.1.term.to.length:Int)))then(grd (okB ((0<=r2.1.2.2.1)/\(r2.1.2.2.1<(r2.2.1.term.to.length:Int)))) (grd (okB ((0<=r2.1.2.2.1)/\(r2.1.2.2.1<(r2.2.2.1.term.to.length:Int)))) (bif(!(decide ((r2.2.1.term.to.getD r2.1.2.2.1.toNat Edge.z).block=(r2.2.2.1.term.to.getD r2.1.2.2.1.toNat Edge.z).block)))then(some (Sum.inr (Sum.inr ((false,()),()))))else(grd (okB ((0<=r2.1.2.2.1)/\(r2.1.2.2.1<(r2.2.1.term.to.length:Int)))) (grd (okB ((0<=r2.1.2.2.1)/\(r2.1.2.2.1<(r2.2.2.1.term.to.length:Int)))) (qak (grd (okB ((r2.2.1.term.to.getD r2.1.2.2.1.toNat Edge.z).args.length<=LEN)) (some ((decide ((r2.2.1.term.to.getD r2.1.2.2.1.toNat Edge.z).args=(r2.2.2.1.term.to.getD r2.1.2.2.1.toNat Edge.z).args)),()))) (fun r3=>(bif(!r3.1)then(some (Sum.inr (Sum.inr ((false,()),()))))else(grd (okB (((-9223372036854775808)<=(r2.1.2.2.1+1))/\((r2.1.2.2.1+1)<=9223372036854775807))) (some (Sum.inl (((),((),((r2.1.2.2.1+1),()))),(r2.2.1,(r2.2.2.1,()))))))))))))))else(some (Sum.inr (Sum.inl ((),()))))))
def go59_l1:ty137->Option (ty137⊕(((Unit×(Unit×Unit))×(Block×(Block×Unit)))⊕((Bool×Unit)×Unit))):=(fun r2=>(bif(decide (r2.1.2.2.1<(r2.2.1.insts.length:Int)))then(grd (okB ((0<=r2.1.2.2.1)/\(r2.1.2.2.1<(r2.2.1.insts.length:Int)))) (grd (okB ((0<=r2.1.2.2.1)/\(r2.1.2.2.1<(r2.2.2.1.insts.length:Int)))) (qak (grd (okB ((r2.2.1.insts.getD r2.1.2.2.1.toNat qau.z).args.length<=LEN)) (some ((Sp.qk0 (r2.2.1.insts.getD r2.1.2.2.1.toNat qau.z) (r2.2.2.1.insts.getD r2.1.2.2.1.toNat qau.z)),()))) (fun r3=>(bif(!r3.1)then(some (Sum.inr (Sum.inr ((false,()),()))))else(grd (okB (((-9223372036854775808)<=(r2.1.2.2.1+1))/\((r2.1.2.2.1+1)<=9223372036854775807))) (some (Sum.inl (((),((),((r2.1.2.2.1+1),()))),(r2.2.1,(r2.2.2.1,())))))))))))else(some (Sum.inr (Sum.inl (((),((),())),(r2.2.1,(r2.2.2.1,()))))))))
def go59(x0:Block)(x1:Block):(Option (Bool×Unit)):=(qak (grd (okB (x0.params.length<=LEN)) (some ((decide (x0.params=x1.params)),()))) (fun r0=>(bif(!r0.1)then(some (false,()))else(bif(!(decide ((x0.insts.length:Int)=(x1.insts.length:Int))))then(some (false,()))else(bif(!(decide (x0.qar=x1.qar)))then(some (false,()))else(bif(!(decide (x0.qba=x1.qba)))then(some (false,()))else(bif(!(decide (x0.line=x1.line)))then(some (false,()))else(bif(!(decide (x0.term.kind=x1.term.kind)))then(some (false,()))else(bif(!(decide (x0.term.cond=x1.term.cond)))then(some (false,()))else(qak (grd (okB (x0.term.qa4.length<=LEN)) (some ((decide (x0.term.qa4=x1.term.qa4)),()))) (fun r1=>(bif(!r1.1)then(some (false,()))else(bif(!(decide ((x0.term.to.length:Int)=(x1.term.to.length:Int))))then(some (false,()))else(qak (qap (go59_l1) (((),((),(0,()))),(x0,(x1,())))) (fun z0=>(qjo (fun z1=>(qak (qap (go59_l2) (((),((),(0,()))),(z1.2.1,(z1.2.2.1,())))) (fun z2=>(qjo (fun z3=>(some (true,()))) (fun z3=>(some (z3.1.1,()))) z2)))) (fun z1=>(some (z1.1.1,()))) z0))))))))))))))))
theorem run59(x0:Block)(x1:Block):qei (P:=Try.prog) [c39,c100] Try.f59 ann59 [(0,(.st 3)),(1,(.st 3))] [] .b [] (x0,(x1,())) ()=go59 x0 x1:=by kernel_rfl
theorem qwn{α:Type}{b i:Nat}{ok:α->Prop}{l:List α}{z:α}(h:All b ok l)(hi:i<l.length):ok (l.getD i z):=by
 refine h.2 _ ?_;rw[zg0,zhb hi,zhi];exact zh4 hi
def Sp.qew(x y:Block):Bool:=decide (x=y)
theorem ok98(x y:List Edge)(h:All 32 Edge.ok x):go98 x y ()=some (decide (x=y),()):=by
 have hx:=h.len;rw[qc6]at hx;unfold go98 go98_l1;by_cases hl:(x.length:Int)=y.length
 ·have h':x.length=y.length:=by omega
  have hg:∀i,i<x.length->(x.getD i Edge.z).args.length<=LEN:=fun i hi=>(qwn (z:=Edge.z) h hi).2.len;simp(maxSteps:=1000000) (disch:=((try dsimp only);omega)) only[↓gsA,gsB]
  refine qbj (qbg (l:=List.range x.length) (st:=fun i=>((y,(),x,((x.length:Nat):Int),(i:Int),()),())) rfl 0 (fun i=>decide (x.getD i Edge.z=y.getD i Edge.z)) (A:=.inl ((),())) (B:=.inr ((false,()),())) (fun i hi hp=>?_) (fun i hi hp=>?_) (fun _=>?_)) ?_
  ·rw[zhd]at hi;rw[qa7 hi]at hp;have hgi:=hg i hi;simp only[zhe,qas hgi,Sp.qpj,hp];simp(maxSteps:=1000000) (disch:=((try dsimp only);omega)) only[↓gsA,gsB]
  ·rw[zhd]at hi;rw[qa7 hi]at hp;have hgi:=hg i hi;simp only[zhe,qas hgi,Sp.qpj,hp];simp(maxSteps:=1000000) (disch:=((try dsimp only);omega)) only[↓gsA,gsB]
  ·rw[zhd];simp(maxSteps:=1000000) (disch:=((try dsimp only);omega)) only[↓gsA,gsB]
  ·rw[qj9 Edge.z h'];by_cases e:x=y
   ·rw[decide_eq_true e];rfl
   ·rw[decide_eq_false e];rfl
 ·have e:x≠y:=fun e=>hl (by rw[e]);rw[decide_eq_false e];simp(maxSteps:=1000000) (disch:=((try dsimp only);omega)) only[↓gsA,gsB]
theorem q7p(a b:Term):a=b↔a.kind=b.kind/\a.cond=b.cond/\a.to=b.to/\a.qa4=b.qa4:=by cases a;cases b;simp only[Term.mk.injEq]
theorem q5f(a b:Block):a=b↔a.params=b.params/\a.insts=b.insts/\a.term=b.term/\a.qar=b.qar/\a.qba=b.qba/\a.line=b.line:=by cases a;cases b;simp only[Block.mk.injEq]
theorem qev{α:Type}(g:Block->α){a b:Block}(h:g a≠g b):Sp.qew a b=false:=decide_eq_false fun e=>h (by rw[e])
theorem q8j(a b:Block)(h:a.ok)(hl:a.insts.length=b.insts.length):qap go59_l1 (((),(),(0:Int),()),a,b,())=some (if(List.range a.insts.length).all (fun i=>decide (a.insts.getD i qau.z=b.insts.getD i qau.z))then .inl (((),(),()),a,b,())else .inr ((false,()),())):=by
 have hx:=h.2.1.len;rw[qc6]at hx;have hg:∀i,i<a.insts.length->(a.insts.getD i qau.z).args.length<=LEN:=fun i hi=>(qwn (z:=qau.z) h.2.1 hi).2.2.1.len;unfold go59_l1;refine qbg (l:=List.range a.insts.length) (st:=fun i=>(((),(),(i:Int),()),a,b,())) rfl 0 (fun i=>decide (a.insts.getD i qau.z=b.insts.getD i qau.z)) (fun i hi hp=>?_) (fun i hi hp=>?_) (fun _=>?_)
 ·rw[zhd]at hi;rw[qa7 hi]at hp;have hgi:=hg i hi;simp only[zhe,qas hgi,Sp.qk0,hp];simp(maxSteps:=1000000) (disch:=((try dsimp only);omega)) only[↓gsA,gsB]
 ·rw[zhd]at hi;rw[qa7 hi]at hp;have hgi:=hg i hi;simp only[zhe,qas hgi,Sp.qk0,hp];simp(maxSteps:=1000000) (disch:=((try dsimp only);omega)) only[↓gsA,gsB]
 ·rw[zhd];simp(maxSteps:=1000000) (disch:=((try dsimp only);omega)) only[↓gsA,gsB]
theorem q1n(a b:Edge):a=b↔a.block=b.block/\a.args=b.args:=by cases a;cases b;simp only[Edge.mk.injEq]
theorem q8i(a b:Block)(h:a.ok)(hl:a.term.to.length=b.term.to.length):qap go59_l2 (((),(),(0:Int),()),a,b,())=some (if(List.range a.term.to.length).all (fun i=>decide (a.term.to.getD i Edge.z=b.term.to.getD i Edge.z))then .inl ((),())else .inr ((false,()),())):=by
 have hx:=h.2.2.1.2.2.1.len;rw[qc6]at hx;have hg:∀i,i<a.term.to.length->(a.term.to.getD i Edge.z).args.length<=LEN:=fun i hi=>(qwn (z:=Edge.z) h.2.2.1.2.2.1 hi).2.len;unfold go59_l2;refine qbg (l:=List.range a.term.to.length) (st:=fun i=>(((),(),(i:Int),()),a,b,())) rfl 0 (fun i=>decide (a.term.to.getD i Edge.z=b.term.to.getD i Edge.z)) (fun i hi hp=>?_) (fun i hi hp=>?_) (fun _=>?_)
 ·rw[zhd]at hi;rw[qa7 hi]at hp;have hgi:=hg i hi;have hp:=(q1n _ _).1 (of_decide_eq_true hp);simp only[zhe,qas hgi,decide_eq_true hp.1,decide_eq_true hp.2];simp(maxSteps:=1000000) (disch:=((try dsimp only);omega)) only[↓gsA,gsB]
 ·rw[zhd]at hi;rw[qa7 hi]at hp;have hgi:=hg i hi;have hp:¬ (_/\_):=fun e=>of_decide_eq_false hp ((q1n _ _).2 e);simp only[zhe,qas hgi];by_cases hb:(a.term.to.getD i Edge.z).block=(b.term.to.getD i Edge.z).block
  ·have ha:¬ (a.term.to.getD i Edge.z).args=(b.term.to.getD i Edge.z).args:=fun e=>hp ⟨hb,e⟩;simp only[decide_eq_true hb,decide_eq_false ha];simp(maxSteps:=1000000) (disch:=((try dsimp only);omega)) only[↓gsA,gsB]
  ·simp only[decide_eq_false hb];simp(maxSteps:=1000000) (disch:=((try dsimp only);omega)) only[↓gsA,gsB]
 ·rw[zhd];simp(maxSteps:=1000000) (disch:=((try dsimp only);omega)) only[↓gsA,gsB]
theorem ok59(a b:Block)(h:a.ok):go59 a b=some (Sp.qew a b,()):=by
 have hp:=h.1.len;have hr:=h.2.2.1.2.2.2.len;unfold go59;rw[qas hp,qah];by_cases e1:a.params=b.params
 ·by_cases e2:(a.insts.length:Int)=b.insts.length
  ·by_cases e3:a.qar=b.qar
   ·by_cases e4:a.qba=b.qba
    ·by_cases e5:a.line=b.line
     ·by_cases e6:a.term.kind=b.term.kind
      ·by_cases e7:a.term.cond=b.term.cond
       ·by_cases e8:a.term.qa4=b.term.qa4
        ·by_cases e9:(a.term.to.length:Int)=b.term.to.length
         ·have e2':a.insts.length=b.insts.length:=by omega
          have e9':a.term.to.length=b.term.to.length:=by omega
          simp only[decide_eq_true e1,decide_eq_true e2,decide_eq_true e3,decide_eq_true e4,decide_eq_true e5,decide_eq_true e6,decide_eq_true e7,decide_eq_true e8,decide_eq_true e9,zhw,cond_false,qas hr,qah,q8j a b h e2',qj9 qau.z e2'];by_cases ei:a.insts=b.insts
          ·simp only[decide_eq_true ei,if_true,qeh,q8i a b h e9',qj9 Edge.z e9',qah];by_cases et:a.term.to=b.term.to
           ·have:Sp.qew a b=true:=decide_eq_true ((q5f a b).2 ⟨e1,ei,(q7p _ _).2 ⟨e6,e7,et,e8⟩,e3,e4,e5⟩);rw[this];simp only[decide_eq_true et,if_true,qeh]
           ·rw[qev (fun x=>x.term.to) et];simp only[decide_eq_false et,zhs,if_false,qfb]
          ·rw[qev (fun x=>x.insts) ei];simp only[decide_eq_false ei,zhs,if_false,qfb]
         ·rw[qev (fun x=>(x.term.to.length:Int)) e9];simp only[decide_eq_true e1,decide_eq_true e2,decide_eq_true e3,decide_eq_true e4,decide_eq_true e5,decide_eq_true e6,decide_eq_true e7,decide_eq_true e8,decide_eq_false e9,zhw,zh2,cond_false,cond_true,qas hr,qah]
        ·rw[qev (fun x=>x.term.qa4) e8];simp only[decide_eq_true e1,decide_eq_true e2,decide_eq_true e3,decide_eq_true e4,decide_eq_true e5,decide_eq_true e6,decide_eq_true e7,decide_eq_false e8,zhw,zh2,cond_false,cond_true,qas hr,qah]
       ·rw[qev (fun x=>x.term.cond) e7];simp only[decide_eq_true e1,decide_eq_true e2,decide_eq_true e3,decide_eq_true e4,decide_eq_true e5,decide_eq_true e6,decide_eq_false e7,zhw,zh2,cond_false,cond_true]
      ·rw[qev (fun x=>x.term.kind) e6];simp only[decide_eq_true e1,decide_eq_true e2,decide_eq_true e3,decide_eq_true e4,decide_eq_true e5,decide_eq_false e6,zhw,zh2,cond_false,cond_true]
     ·rw[qev (fun x=>x.line) e5];simp only[decide_eq_true e1,decide_eq_true e2,decide_eq_true e3,decide_eq_true e4,decide_eq_false e5,zhw,zh2,cond_false,cond_true]
    ·rw[qev (fun x=>x.qba) e4];simp only[decide_eq_true e1,decide_eq_true e2,decide_eq_true e3,decide_eq_false e4,zhw,zh2,cond_false,cond_true]
   ·rw[qev (fun x=>x.qar) e3];simp only[decide_eq_true e1,decide_eq_true e2,decide_eq_false e3,zhw,zh2,cond_false,cond_true]
  ·rw[qev (fun x=>(x.insts.length:Int)) e2];simp only[decide_eq_true e1,decide_eq_false e2,zhw,zh2,cond_false,cond_true]
 ·rw[qev (fun x=>x.params) e1];simp only[decide_eq_false e1,zh2,cond_true]
def c59:Ctr Try.prog:=qcn 59 Try.f59 Try.func59 [c39,c100] ann59 [(0,(.st 3)),(1,(.st 3))] [] .b [] (fun x _=>grd (okB (Block.ok x.1)) (some (Sp.qew x.1 x.2.1,()))) (fun x _ r h=>FO (run59 x.1 x.2.1) (ok59 x.1 x.2.1) h)
end
end Go.Abs
namespace Go.Abs
open Go Go.Proofs
noncomputable section
def Sp.qhx(x y:Fn):Bool:=decide (x=y)
theorem zcm(a b:Fn):Sp.qhx a b=(decide (a.name=b.name)&&(decide (a.qab=b.qab)&&(decide (a.qao=b.qao)&&(decide (a.streams=b.streams)&&(decide (a.qa4=b.qa4)&&decide (a.blocks=b.blocks)))))):=by
 unfold Sp.qhx;rw[Bool.eq_iff_iff];simp only[zgz,decide_eq_true_eq];cases a;cases b;simp only[Fn.mk.injEq]
def ann24:Ann:=(.seq .o (.join sh143 (.seq .o (.cond (.seq .o .o) .o)) (.join sh143 (.seq .o (.block (.loop sh144 [((.exit 0),sh143),(.ret,sh141)] (.join sh144 (.seq .o (.cond .o .o)) (.join sh144 (.block (.seq .o (.cond (.seq .o .o) .o))) .o))))) (.join sh143 (.seq .o (.block (.loop sh145 [((.exit 2),sh143),(.ret,sh141)] (.join sh145 (.seq .o (.cond .o .o)) (.join sh145 (.block (.seq .o (.cond (.seq .o .o) .o))) .o))))) (.join ⟨[],[]⟩ (.seq .o (.block (.loop sh146 [((.exit 4),⟨[],[]⟩),(.ret,sh141)] (.join sh146 (.seq .o (.cond .o .o)) (.join sh146 (.block (.seq .o (.cond (.seq .o .o) .o))) .o))))) (.seq .o .o))))))
def go24_l3:ty136->Option (ty136⊕((Unit×Unit)⊕((Bool×Unit)×Unit))):=(fun r2=>(bif(decide (r2.1.2.2.1<(r2.2.1.blocks.length:Int)))then(grd (okB ((0<=r2.1.2.2.1)/\(r2.1.2.2.1<(r2.2.1.blocks.length:Int)))) (grd (okB ((0<=r2.1.2.2.1)/\(r2.1.2.2.1<(r2.2.2.1.blocks.length:Int)))) (qak (grd (okB (Block.ok (r2.2.1.blocks.getD r2.1.2.2.1.toNat Block.z))) (some ((Sp.qew (r2.2.1.blocks.getD r2.1.2.2.1.toNat Block.z) (r2.2.2.1.blocks.getD r2.1.2.2.1.toNat Block.z)),()))) (fun r3=>(bif(!r3.1)then(some (Sum.inr (Sum.inr ((false,()),()))))else(grd (okB (((-9223372036854775808)<=(r2.1.2.2.1+1))/\((r2.1.2.2.1+1)<=9223372036854775807))) (some (Sum.inl (((),((),((r2.1.2.2.1+1),()))),(r2.2.1,(r2.2.2.1,())))))))))))else(some (Sum.inr (Sum.inl ((),()))))))
def go24_l2:ty136->Option ty138:=(fun r2=>(bif(decide (r2.1.2.2.1<(r2.2.1.streams.length:Int)))then(grd (okB ((0<=r2.1.2.2.1)/\(r2.1.2.2.1<(r2.2.1.streams.length:Int)))) (grd (okB ((0<=r2.1.2.2.1)/\(r2.1.2.2.1<(r2.2.2.1.streams.length:Int)))) (bif(bif true then(!(((ByteArray.toList (r2.2.1.streams.getD r2.1.2.2.1.toNat qbp.z).name)==(ByteArray.toList (r2.2.2.1.streams.getD r2.1.2.2.1.toNat qbp.z).name))&&((decide ((r2.2.1.streams.getD r2.1.2.2.1.toNat qbp.z).width=(r2.2.2.1.streams.getD r2.1.2.2.1.toNat qbp.z).width))&&((r2.2.1.streams.getD r2.1.2.2.1.toNat qbp.z).out==(r2.2.2.1.streams.getD r2.1.2.2.1.toNat qbp.z).out))))else(((ByteArray.toList (r2.2.1.streams.getD r2.1.2.2.1.toNat qbp.z).name)==(ByteArray.toList (r2.2.2.1.streams.getD r2.1.2.2.1.toNat qbp.z).name))&&((decide ((r2.2.1.streams.getD r2.1.2.2.1.toNat qbp.z).width=(r2.2.2.1.streams.getD r2.1.2.2.1.toNat qbp.z).width))&&((r2.2.1.streams.getD r2.1.2.2.1.toNat qbp.z).out==(r2.2.2.1.streams.getD r2.1.2.2.1.toNat qbp.z).out))))then(some (Sum.inr (Sum.inr ((false,()),()))))else(grd (okB (((-9223372036854775808)<=(r2.1.2.2.1+1))/\((r2.1.2.2.1+1)<=9223372036854775807))) (some (Sum.inl (((),((),((r2.1.2.2.1+1),()))),(r2.2.1,(r2.2.2.1,())))))))))else(some (Sum.inr (Sum.inl (((),((),())),(r2.2.1,(r2.2.2.1,()))))))))
def go24_l1:ty136->Option ty138:=(fun r2=>(bif(decide (r2.1.2.2.1<(r2.2.1.qao.length:Int)))then(grd (okB ((0<=r2.1.2.2.1)/\(r2.1.2.2.1<(r2.2.1.qao.length:Int)))) (grd (okB ((0<=r2.1.2.2.1)/\(r2.1.2.2.1<(r2.2.2.1.qao.length:Int)))) (bif(bif true then(!(((ByteArray.toList (r2.2.1.qao.getD r2.1.2.2.1.toNat Arr.z).name)==(ByteArray.toList (r2.2.2.1.qao.getD r2.1.2.2.1.toNat Arr.z).name))&&((decide ((r2.2.1.qao.getD r2.1.2.2.1.toNat Arr.z).width=(r2.2.2.1.qao.getD r2.1.2.2.1.toNat Arr.z).width))&&((decide ((r2.2.1.qao.getD r2.1.2.2.1.toNat Arr.z).len=(r2.2.2.1.qao.getD r2.1.2.2.1.toNat Arr.z).len))&&((decide ((r2.2.1.qao.getD r2.1.2.2.1.toNat Arr.z).kind=(r2.2.2.1.qao.getD r2.1.2.2.1.toNat Arr.z).kind))&&(decide ((r2.2.1.qao.getD r2.1.2.2.1.toNat Arr.z).factor=(r2.2.2.1.qao.getD r2.1.2.2.1.toNat Arr.z).factor)))))))else(((ByteArray.toList (r2.2.1.qao.getD r2.1.2.2.1.toNat Arr.z).name)==(ByteArray.toList (r2.2.2.1.qao.getD r2.1.2.2.1.toNat Arr.z).name))&&((decide ((r2.2.1.qao.getD r2.1.2.2.1.toNat Arr.z).width=(r2.2.2.1.qao.getD r2.1.2.2.1.toNat Arr.z).width))&&((decide ((r2.2.1.qao.getD r2.1.2.2.1.toNat Arr.z).len=(r2.2.2.1.qao.getD r2.1.2.2.1.toNat Arr.z).len))&&((decide ((r2.2.1.qao.getD r2.1.2.2.1.toNat Arr.z).kind=(r2.2.2.1.qao.getD r2.1.2.2.1.toNat Arr.z).kind))&&(decide ((r2.2.1.qao.getD r2.1.2.2.1.toNat Arr.z).factor=(r2.2.2.1.qao.getD r2.1.2.2.1.toNat Arr.z).factor)))))))then(some (Sum.inr (Sum.inr ((false,()),()))))else(grd (okB (((-9223372036854775808)<=(r2.1.2.2.1+1))/\((r2.1.2.2.1+1)<=9223372036854775807))) (some (Sum.inl (((),((),((r2.1.2.2.1+1),()))),(r2.2.1,(r2.2.2.1,())))))))))else(some (Sum.inr (Sum.inl (((),((),())),(r2.2.1,(r2.2.2.1,()))))))))
def go24(x0:Fn)(x1:Fn):(Option (Bool×Unit)):=(bif(!((ByteArray.toList x0.name)==(ByteArray.toList x1.name)))then(some (false,()))else(qak (grd (okB (x0.qab.length<=LEN)) (some ((decide (x0.qab=x1.qab)),()))) (fun r0=>(bif(!r0.1)then(some (false,()))else(qak (grd (okB (x0.qa4.length<=LEN)) (some ((decide (x0.qa4=x1.qa4)),()))) (fun r1=>(bif(!r1.1)then(some (false,()))else(bif(!(decide ((x0.qao.length:Int)=(x1.qao.length:Int))))then(some (false,()))else(bif(!(decide ((x0.streams.length:Int)=(x1.streams.length:Int))))then(some (false,()))else(bif(!(decide ((x0.blocks.length:Int)=(x1.blocks.length:Int))))then(some (false,()))else(qak (qap (go24_l1) (((),((),(0,()))),(x0,(x1,())))) (fun z0=>(qjo (fun z1=>(qak (qap (go24_l2) (((),((),(0,()))),(z1.2.1,(z1.2.2.1,())))) (fun z2=>(qjo (fun z3=>(qak (qap (go24_l3) (((),((),(0,()))),(z3.2.1,(z3.2.2.1,())))) (fun z4=>(qjo (fun z5=>(some (true,()))) (fun z5=>(some (z5.1.1,()))) z4)))) (fun z3=>(some (z3.1.1,()))) z2)))) (fun z1=>(some (z1.1.1,()))) z0)))))))))))))
theorem run24(x0:Fn)(x1:Fn):qei (P:=Try.prog) [c39,c59] Try.f24 ann24 [(0,(.st 6)),(1,(.st 6))] [] .b [] (x0,(x1,())) ()=go24 x0 x1:=by kernel_rfl
theorem q8p(a b:Fn)(h:a.ok)(hl:a.qao.length=b.qao.length):qap go24_l1 (((),(),(0:Int),()),a,b,())=some (if(List.range a.qao.length).all (fun i=>decide (a.qao.getD i Arr.z=b.qao.getD i Arr.z))then .inl (((),(),()),a,b,())else .inr ((false,()),())):=by
 have hx:=h.2.2.1.len;rw[qc6]at hx;unfold go24_l1;refine qbg (l:=List.range a.qao.length) (st:=fun i=>(((),(),(i:Int),()),a,b,())) rfl 0 (fun i=>decide (a.qao.getD i Arr.z=b.qao.getD i Arr.z)) (fun i hi hp=>?_) (fun i hi hp=>?_) (fun _=>?_)
 ·rw[zhd]at hi;rw[qa7 hi]at hp;simp only[zhe,q2d,hp];simp(maxSteps:=1000000) (disch:=((try dsimp only);omega)) only[↓gsA,gsB]
 ·rw[zhd]at hi;rw[qa7 hi]at hp;simp only[zhe,q2d,hp];simp(maxSteps:=1000000) (disch:=((try dsimp only);omega)) only[↓gsA,gsB]
 ·rw[zhd];simp(maxSteps:=1000000) (disch:=((try dsimp only);omega)) only[↓gsA,gsB]
theorem q8o(a b:Fn)(h:a.ok)(hl:a.streams.length=b.streams.length):qap go24_l2 (((),(),(0:Int),()),a,b,())=some (if(List.range a.streams.length).all (fun i=>decide (a.streams.getD i qbp.z=b.streams.getD i qbp.z))then .inl (((),(),()),a,b,())else .inr ((false,()),())):=by
 have hx:=h.2.2.2.1.len;rw[qc6]at hx;unfold go24_l2;refine qbg (l:=List.range a.streams.length) (st:=fun i=>(((),(),(i:Int),()),a,b,())) rfl 0 (fun i=>decide (a.streams.getD i qbp.z=b.streams.getD i qbp.z)) (fun i hi hp=>?_) (fun i hi hp=>?_) (fun _=>?_)
 ·rw[zhd]at hi;rw[qa7 hi]at hp;simp only[zhe,qur,hp];simp(maxSteps:=1000000) (disch:=((try dsimp only);omega)) only[↓gsA,gsB]
 ·rw[zhd]at hi;rw[qa7 hi]at hp;simp only[zhe,qur,hp];simp(maxSteps:=1000000) (disch:=((try dsimp only);omega)) only[↓gsA,gsB]
 ·rw[zhd];simp(maxSteps:=1000000) (disch:=((try dsimp only);omega)) only[↓gsA,gsB]
theorem q8n(a b:Fn)(h:a.ok)(hl:a.blocks.length=b.blocks.length):qap go24_l3 (((),(),(0:Int),()),a,b,())=some (if(List.range a.blocks.length).all (fun i=>decide (a.blocks.getD i Block.z=b.blocks.getD i Block.z))then .inl ((),())else .inr ((false,()),())):=by
 have hx:=h.2.2.2.2.2.len;rw[qc6]at hx;have hg:∀i,i<a.blocks.length->(a.blocks.getD i Block.z).ok:=fun i hi=>qwn (z:=Block.z) h.2.2.2.2.2 hi;unfold go24_l3;refine qbg (l:=List.range a.blocks.length) (st:=fun i=>(((),(),(i:Int),()),a,b,())) rfl 0 (fun i=>decide (a.blocks.getD i Block.z=b.blocks.getD i Block.z)) (fun i hi hp=>?_) (fun i hi hp=>?_) (fun _=>?_)
 ·rw[zhd]at hi;rw[qa7 hi]at hp;simp only[zhe,qas (hg i hi),Sp.qew,hp];simp(maxSteps:=1000000) (disch:=((try dsimp only);omega)) only[↓gsA,gsB]
 ·rw[zhd]at hi;rw[qa7 hi]at hp;simp only[zhe,qas (hg i hi),Sp.qew,hp];simp(maxSteps:=1000000) (disch:=((try dsimp only);omega)) only[↓gsA,gsB]
 ·rw[zhd];simp(maxSteps:=1000000) (disch:=((try dsimp only);omega)) only[↓gsA,gsB]
theorem qqc{α:Type}(g:Fn->α){a b:Fn}(h:g a≠g b):Sp.qhx a b=false:=decide_eq_false fun e=>h (by rw[e])
theorem ok24(a b:Fn)(h:a.ok):go24 a b=some (Sp.qhx a b,()):=by
 have h1:=h.2.1.len;have h4:=h.2.2.2.2.1.len;unfold go24;by_cases e1:a.name=b.name
 rotate_left
 ·rw[qqc (fun x=>x.name) e1];simp only[bytes_beq,decide_eq_false e1,qas h1,qas h4,qah,zhw,zh2,cond_false,cond_true]
 by_cases e2:a.qab=b.qab
 rotate_left
 ·rw[qqc (fun x=>x.qab) e2];simp only[bytes_beq,decide_eq_true e1,decide_eq_false e2,qas h1,qas h4,qah,zhw,zh2,cond_false,cond_true]
 by_cases e3:a.qa4=b.qa4
 rotate_left
 ·rw[qqc (fun x=>x.qa4) e3];simp only[bytes_beq,decide_eq_true e1,decide_eq_true e2,decide_eq_false e3,qas h1,qas h4,qah,zhw,zh2,cond_false,cond_true]
 by_cases e4:(a.qao.length:Int)=b.qao.length
 rotate_left
 ·rw[qqc (fun x=>(x.qao.length:Int)) e4];simp only[bytes_beq,decide_eq_true e1,decide_eq_true e2,decide_eq_true e3,decide_eq_false e4,qas h1,qas h4,qah,zhw,zh2,cond_false,cond_true]
 by_cases e5:(a.streams.length:Int)=b.streams.length
 rotate_left
 ·rw[qqc (fun x=>(x.streams.length:Int)) e5];simp only[bytes_beq,decide_eq_true e1,decide_eq_true e2,decide_eq_true e3,decide_eq_true e4,decide_eq_false e5,qas h1,qas h4,qah,zhw,zh2,cond_false,cond_true]
 by_cases e6:(a.blocks.length:Int)=b.blocks.length
 rotate_left
 ·rw[qqc (fun x=>(x.blocks.length:Int)) e6];simp only[bytes_beq,decide_eq_true e1,decide_eq_true e2,decide_eq_true e3,decide_eq_true e4,decide_eq_true e5,decide_eq_false e6,qas h1,qas h4,qah,zhw,zh2,cond_false,cond_true]
 have f4:a.qao.length=b.qao.length:=by omega
 have f5:a.streams.length=b.streams.length:=by omega
 have f6:a.blocks.length=b.blocks.length:=by omega
 simp only[bytes_beq,decide_eq_true e1,decide_eq_true e2,decide_eq_true e3,decide_eq_true e4,decide_eq_true e5,decide_eq_true e6,qas h1,qas h4,qah,zhw,cond_false,q8p a b h f4,qj9 Arr.z f4];by_cases g4:a.qao=b.qao
 rotate_left
 ·rw[qqc (fun x=>x.qao) g4];simp only[decide_eq_false g4,zhs,if_false,qfb]
 simp only[decide_eq_true g4,if_true,qeh,q8o a b h f5,qj9 qbp.z f5,qah];by_cases g5:a.streams=b.streams
 rotate_left
 ·rw[qqc (fun x=>x.streams) g5];simp only[decide_eq_false g5,zhs,if_false,qfb]
 simp only[decide_eq_true g5,if_true,qeh,q8n a b h f6,qj9 Block.z f6,qah];by_cases g6:a.blocks=b.blocks
 rotate_left
 ·rw[qqc (fun x=>x.blocks) g6];simp only[decide_eq_false g6,zhs,if_false,qfb]
 have:Sp.qhx a b=true:=by
  rw[zcm];simp only[decide_eq_true e1,decide_eq_true e2,decide_eq_true e3,decide_eq_true g4,decide_eq_true g5,decide_eq_true g6,ziq]
 rw[this];simp only[decide_eq_true g6,if_true,qeh]
def c24:Ctr Try.prog:=qcn 24 Try.f24 Try.func24 [c39,c59] ann24 [(0,(.st 6)),(1,(.st 6))] [] .b [] (fun x _=>grd (okB (Fn.ok x.1)) (some (Sp.qhx x.1 x.2.1,()))) (fun x _ r h=>FO (run24 x.1 x.2.1) (ok24 x.1 x.2.1) h)
end
end Go.Abs
namespace Go.Abs
open Go Go.Proofs
noncomputable section
section
variable (x0:Fn) (n1 n2:ByteArray) (w:List Int) (a:List Arr) (s:List qbp) (r:List Int) (B:List qaa) (o1:List Int) (o2:List Arr) (o3:List qbp) (o4:List Int) (o5:List qaa)
variable (i:Nat) (hi:i<B.length) (hb:B.length<=281474976710656)
include hi hb
end
theorem qsk(b:Block):(Sp.qcq b).dat=b:=by
 obtain⟨ps,is,⟨kd,cd,to,rt⟩,pi,un,li⟩:=b;have h1:∀l:List qau,(l.map Sp.qcy).map qag.dat=l:=fun l=>by
  rw[List.map_map]
  conv=>rhs;rw[<- List.map_id l]
  refine zhx fun x _=>?_;simp[Sp.qcy,qag.dat,Ow.dat]
 have h2:∀l:List Edge,(l.map Sp.qch).map qaj.dat=l:=fun l=>by
  rw[List.map_map]
  conv=>rhs;rw[<- List.map_id l]
  refine zhx fun x _=>?_;simp[Sp.qch,qaj.dat,Ow.dat]
 simp only[Sp.qcq,qaa.dat,qaq.dat,Ow.dat,List.map_id',h1,h2]
theorem qo2(l:List Block):(l.map Sp.qcq).map qaa.dat=l:=by
 rw[List.map_map]
 conv=>rhs;rw[<- List.map_id l]
 exact zhx fun x _=>qsk x
theorem qtd{α β:Type}(f:α->β)(l:List α){r:Nat}(h:r<l.length)(z:β)(z0:α):(l.map f).getD r z=f (l.getD r z0):=by simp[zg0,h]
theorem qle(l:List Int):LV.ffP ⟨3,.int .i64,l⟩:=qqf rfl
theorem q1h(l:List qau):LV.ffP ⟨46,.st 8,l.map Sp.qcy⟩:=LV.q1g fun r hr c=>by
 have hr:r<l.length:=by simpa using hr
 have e:LV.row ⟨46,.st 8,l.map Sp.qcy⟩ r=Sp.qcy (l.getD r qau.z):=qtd _ _ hr _ _;rw[e];refine⟨fun hc u hu len=>?_,fun t e l h=>?_⟩
 ·have hc:c<5:=hc
  match c,hc with
  |0,_|1,_=>injection hu with hu;subst hu;simp only[toV];trivial
  |2,_=>cases hu
  |3,_|4,_=>injection hu with hu;subst hu;simp only[toV];trivial
 ·match c,h with
  |2,h=>injection h with h1 h2 h3;subst h1;subst h2;obtain rfl:=eq_of_heq h3;exact qle _
  |3,h|4,h=>cases h
  |_+5,h=>cases h
theorem q1i(l:List Edge):LV.ffP ⟨51,.st 9,l.map Sp.qch⟩:=LV.q1g fun r hr c=>by
 have hr:r<l.length:=by simpa using hr
 have e:LV.row ⟨51,.st 9,l.map Sp.qch⟩ r=Sp.qch (l.getD r Edge.z):=qtd _ _ hr _ _;rw[e];refine⟨fun hc u hu len=>?_,fun t e l h=>?_⟩
 ·have hc:c<2:=hc
  match c,hc with
  |0,_=>injection hu with hu;subst hu;simp only[toV];trivial
  |1,_=>cases hu
 ·match c,h with
  |1,h=>injection h with h1 h2 h3;subst h1;subst h2;obtain rfl:=eq_of_heq h3;exact qle _
theorem qxf(l:List Block):LV.ffP ⟨41,.st 11,l.map Sp.qcq⟩:=LV.q1g fun r hr c=>by
 have hr:r<l.length:=by simpa using hr
 have e:LV.row ⟨41,.st 11,l.map Sp.qcq⟩ r=Sp.qcq (l.getD r Block.z):=qtd _ _ hr _ _;rw[e];refine⟨fun hc u hu len=>?_,fun t e l h=>?_⟩
 ·have hc:c<9:=hc
  match c,hc with
  |0,_|1,_=>cases hu
  |2,_|3,_=>injection hu with hu;subst hu;simp only[toV];trivial
  |4,_|5,_=>cases hu
  |6,_|7,_|8,_=>injection hu with hu;subst hu;simp only[toV];trivial
 ·match c,h with
  |0,h=>injection h with h1 h2 h3;subst h1;subst h2;obtain rfl:=eq_of_heq h3;exact qle _
  |1,h=>injection h with h1 h2 h3;subst h1;subst h2;obtain rfl:=eq_of_heq h3;exact q1h _
  |4,h=>injection h with h1 h2 h3;subst h1;subst h2;obtain rfl:=eq_of_heq h3;exact q1i _
  |5,h=>injection h with h1 h2 h3;subst h1;subst h2;obtain rfl:=eq_of_heq h3;exact qle _
  |6,h|7,h|8,h=>cases h
  |_+9,h=>cases h
theorem qlx(f:Fn):Sp.qhx f f=true:=decide_eq_true rfl
end
end Go.Abs
namespace Go.Abs
open Go Go.Proofs
noncomputable section
abbrev T0:=F67×(Fn×((qce->Option Int)×((Unit×Unit)×(List qac×(List Int×(List Arr×(List qbp×(List Int×(List qac×(List Int×Unit))))))))))
def H0(K:K26)(w:List Int):T0:=(f67 K.nm,(K.z,(K.m,(((),()),(K.out,(K.W,(K.a,(K.t,(K.rt,(K.bl,(w,())))))))))))
abbrev U5:=Unit×(Unit×(Unit×(Unit×(Unit×Unit))))
theorem zcr(K:K26)(n:Nat)(s:RS):go26_l1 (Y1 n n,H1 K s)=some (.inr ((((),((),((),((),((),()))))):U5),H0 K s.2)):=by
 unfold go26_l1;show(bif decide ((n:Int)<(n:Int))then _ else _)=_;rw[decide_eq_false (show ¬ (n:Int)<(n:Int)by omega),cond_false];rfl
def blS(f:Fn)(o:List Int):List qac:=(List.range f.blocks.length).map fun(j:Nat)=>if o.any (fun y=>decide (y=(j:Int)))=true then qqb (f.blocks.getD j Block.z)else qns (f.blocks.getD j Block.z)
theorem qua(f:Fn)(o:List Int):(blS f o).length=f.blocks.length:=by simp[blS]
theorem q9e(f:Fn)(o:List Int)(k:Nat)(h:k<f.blocks.length)(hn:o.any (fun y=>decide (y=(k:Int)))=false)(z:qac):(blS f o).getD k z=qns (f.blocks.getD k Block.z):=by
 have h2:k<(List.range f.blocks.length).length:=by simpa using h
 simp only[blS,zg0,zh5,zhb h2,zin,zii,zhi,hn,zhs,if_false]
theorem q9c(f:Fn)(o:List Int)(k:Nat)(h:k<f.blocks.length):blS f (o++[(k:Int)])=(blS f o).set k (qqb (f.blocks.getD k Block.z)):=by
 refine zih (by simp[blS]) fun i h2 h3=>?_;simp only[blS,List.getElem_set,ziv,zin,List.any_append,List.any_cons,List.any_nil,Bool.or_false];by_cases e:k=i
 ·subst e;simp
 ·rw[if_neg e,decide_eq_false (show ¬ (k:Int)=(i:Int)by omega),Bool.or_false]
theorem q30{α:Type}(l:List α)(k:Nat)(h:k<l.length)(z:α):l=l.take k++l.getD k z::l.drop (k+1):=by
 have:=List.set_eq_take_append_cons_drop (l:=l) (i:=k) (a:=l.getD k z);rw[if_pos h]at this;rw[<- this];refine zih (by simp) fun i h1 h2=>?_;rw[List.getElem_set];split
 ·rename_i e;subst e;simp[zg0,zhb h]
 ·rfl
def q4n:List Int->Nat->(qce->Option Int)->(qce->Option Int)
 |[],_,m=>m
 |b::l,i,m=>q4n l (i+1) (qnn m (.i b) (i:Int))
def Sp.rAt(f:Fn)(b:Int)(s:RS):Block×RS:=Sp.qzx f.qab (f.blocks.getD b.toNat Block.z) s
theorem qvu(f:Fn)(z:Fn)(hW:f.qab.length<=100000)(hb:∀i,i<f.blocks.length->SmB (f.blocks.getD i Block.z))(ord:List Int)(hn:ord.length<=100000):∀(l2 l1:List Int) (m:qce->Option Int) (out:List qac) (s:RS),ord=l1++l2->(∀b∈l2,0<=b/\b<f.blocks.length)->l2.Nodup->(∀b∈l2,b∉l1)->qhr f.qab s->out.length=l1.length ->
  qap go26_l1 (Y1 ord.length l1.length,H1 ⟨f.name,f.qab,f.qao,f.streams,f.qa4,z,m,out,0,0,0,0,0,ord,blS f l1⟩ s)=some ((((),((),((),((),((),()))))):U5),H0 ⟨f.name,f.qab,f.qao,f.streams,f.qa4,z,q4n l2 l1.length m,out++(qgn (Sp.rAt f) l2 s).1.map qns,0,0,0,0,0,ord,blS f ord⟩ (qgn (Sp.rAt f) l2 s).2.2)
 |[],l1,m,out,s,ho,hr,hd,hx,hI,hol=>by
  rw[zht]at ho;subst ho;rw[qa8,zcr];simp only[qgn,q4n,zik,zht]
 |b::l2,l1,m,out,s,ho,hr,hd,hx,hI,hol=>by
  obtain⟨hb0,hb1⟩:=hr b (zg5 ..);obtain⟨k,rfl⟩:=Int.eq_ofNat_of_zero_le hb0;have hk:k<f.blocks.length:=by omega
  have hnot:=hx _ (zg5 ..);have hany:l1.any (fun y=>decide (y=(k:Int)))=false:=by
   cases h:l1.any (fun y=>decide (y=(k:Int)))with
   |false=>rfl
   |true=>
    obtain⟨y,h1,h2⟩:=List.any_eq_true.1 h;have:=of_decide_eq_true h2;subst this;exact absurd h1 hnot
  have hlen:l1.length+(l2.length+1)=ord.length:=by rw[ho];simp
  have hbl:=q30 (blS f l1) k (by rw[qua];exact hk) (qns Block.z)
  rw[q9e f l1 k hk hany]at hbl;have htk:((blS f l1).take k).length=k:=by rw[List.length_take,qua];omega
  have st:=zbo ⟨f.name,f.qab,f.qao,f.streams,f.qa4,z,m,out,0,0,0,0,0,ord,blS f l1⟩ hW (by show out.length<=100000;omega) (f.blocks.getD k Block.z) (hb k hk) ((blS f l1).take k) ((blS f l1).drop (k+1)) hbl ord.length l1.length (by omega) hn (by
   show ord.getD l1.length 0=(((blS f l1).take k).length:Int)
   rw[htk,ho];exact qco _ _ _ _) rfl s hI
  rw[htk]at st;have hset:(blS f l1).take k++qqb (f.blocks.getD k Block.z)::(blS f l1).drop (k+1)=blS f (l1++[(k:Int)]):=by
   rw[q9c f l1 k hk,List.set_eq_take_append_cons_drop,if_pos (by rw[qua];exact hk)]
  rw[hset]at st;have ih:=qvu f z hW hb ord hn l2 (l1++[(k:Int)]) (qnn m (.i (k:Int)) (l1.length:Int)) (out++[qns (Sp.qzx f.qab (f.blocks.getD k Block.z) s).1]) (Sp.qzx f.qab (f.blocks.getD k Block.z) s).2 (by rw[ho];simp) (fun b hb=>hr b (zg8 _ hb)) (zhu.1 hd).2 (fun b hb hc=>by
   rcases zhj.1 hc with h|h
   ·exact hx b (zg8 _ hb) h
   ·rw[zh7]at h;subst h;exact(zhu.1 hd).1 hb) (q4a _ _ _ hI) (by simp[hol])
  rw[qa8,st];simp only[zg6,zg1,zg7,zg9,zib,ziy]at ih;simp only[qgn,q4n,zhg,Sp.rAt,zhe];exact ih
def Y5(a b c d e:Int):Unit×(Unit×(Unit×(Unit×(Unit×(Int×(Int×(Int×(Int×(Int×Unit))))))))):=((),((),((),((),((),(a,(b,(c,(d,(e,()))))))))))
def Y6(a b:Int):Unit×(Unit×(Unit×(Unit×(Unit×(Int×(Int×Unit)))))):=((),((),((),((),((),(a,(b,())))))))
def Sp.rGo(m:qce->Option Int)(e:Edge):Edge:=⟨(m (.i e.block)).getD 0,e.args⟩
def Sp.q90(m:qce->Option Int)(b:Block):Block:=⟨b.params,b.insts,⟨b.term.kind,b.term.cond,b.term.to.map (Sp.rGo m),b.term.qa4⟩,b.qar,b.qba,b.line⟩
theorem qvq(K:K26)(o1 o2:List qac)(ps:List Int)(is:List qag)(kd cd pp un ln:Int)(rs:List Int)(n:Nat)(w:List Int)(ho1:o1.length<=100000):∀(l2:List Edge) (l1:List qaj),l1.length+l2.length<=100000 ->
  qap go26_l5 (Y5 o1.length n o1.length ((l1.length+l2.length:Nat):Int) l1.length,H0 { K with out:=o1++⟨.own ps,.own is,⟨kd,cd,.own (l1++l2.map Sp.qch),.own rs⟩,pp,un,ln⟩::o2 } w)=some (Y6 n o1.length,H0 { K with out:=o1++⟨.own ps,.own is,⟨kd,cd,.own (l1++(l2.map (Sp.rGo K.m)).map Sp.qch),.own rs⟩,pp,un,ln⟩::o2 } w)
 |[],l1,hl=>by
  rw[qa8];unfold go26_l5 H0 Y5 Y6;simp only[zg7,zh3,zik];simp(maxSteps:=1000000) (disch:=((try dsimp only);omega)) only[↓gsA,gsB]
 |v::l2,l1,hl=>by
  simp only[zg1]at hl;have ih:=qvq K o1 o2 ps is kd cd pp un ln rs n w ho1 l2 (l1++[Sp.qch (Sp.rGo K.m v)]) (by simp only[zg6,zg1,zg7];omega)
  rw[qa8];have step:go26_l5 (Y5 o1.length n o1.length ((l1.length+(v::l2).length:Nat):Int) l1.length,H0 { K with out:=o1++⟨.own ps,.own is,⟨kd,cd,.own (l1++(v::l2).map Sp.qch),.own rs⟩,pp,un,ln⟩::o2 } w)=some (.inl (Y5 o1.length n o1.length ((l1.length+(v::l2).length:Nat):Int) ((l1.length+1:Nat):Int),H0 { K with out:=o1++⟨.own ps,.own is,⟨kd,cd,.own (l1++Sp.qch (Sp.rGo K.m v)::l2.map Sp.qch),.own rs⟩,pp,un,ln⟩::o2 } w)):=by
   unfold go26_l5;simp only[H0,Y5,f67,zhg,zg6,zg1,zha,zhe,qco,qfk,Sp.qjh,qah];simp(maxSteps:=1000000) (disch:=((try dsimp only);omega)) only[↓gsA,gsB]
   rfl
  rw[step];simp only[zg6,zg1,zg7,zib,ziy,zg9]at ih;simp only[zhg,zg1];rw[show l1.length+(l2.length+1)=l1.length+1+l2.length by omega];exact ih
abbrev TE:=F67×(Fn×((Unit×Unit)×(List qac×(List Int×(List Arr×(List qbp×(List Int×(List qac×(List Int×Unit)))))))))
def HE(K:K26)(w:List Int):TE:=(f67 K.nm,(K.z,(((),()),(K.out,(K.W,(K.a,(K.t,(K.rt,(K.bl,(w,()))))))))))
theorem qvr(K:K26)(w:List Int):∀(l2:List Block) (l1:List qac),l1.length+l2.length<=100000->(∀b∈l2,b.term.to.length<=100000) ->
  qap go26_l4 (Y6 ((l1.length+l2.length:Nat):Int) l1.length,H0 { K with out:=l1++l2.map qns } w)=some ((((),((),((),((),())))):Unit×(Unit×(Unit×(Unit×Unit)))),HE { K with out:=l1++(l2.map (Sp.q90 K.m)).map qns } w)
 |[],l1,hl,hb=>by
  rw[qa8];unfold go26_l4 H0 HE Y6;simp only[zg7,zh3,zik];simp(maxSteps:=1000000) (disch:=((try dsimp only);omega)) only[↓gsA,gsB]
 |v::l2,l1,hl,hb=>by
  simp only[zg1]at hl;have ih:=qvr K w l2 (l1++[qns (Sp.q90 K.m v)]) (by simp only[zg6,zg1,zg7];omega) (fun b h=>hb b (zg8 _ h))
  have k:=qvq K l1 (l2.map qns) v.params (v.insts.map Sp.qcy) v.term.kind v.term.cond v.qar v.qba v.line v.term.qa4 (l1.length+(v::l2).length) w (by omega) v.term.to [] (by simpa using hb v (zg5 ..));have k0:((0:Nat):Int)=0:=rfl;simp only[zg7,zg9,zhv,k0]at k;rw[qa8];have step:go26_l4 (Y6 ((l1.length+(v::l2).length:Nat):Int) l1.length,H0 { K with out:=l1++(v::l2).map qns } w)=some (.inl (Y6 ((l1.length+(v::l2).length:Nat):Int) ((l1.length+1:Nat):Int),H0 { K with out:=l1++qns (Sp.q90 K.m v)::l2.map qns } w)):=by
   unfold Y5 Y6 H0 f67 at k;unfold go26_l4;show(bif decide ((l1.length:Int)<((l1.length+(v::l2).length:Nat):Int))then _ else _)=_;rw[decide_eq_true (show(l1.length:Int)<((l1.length+(v::l2).length:Nat):Int)by simp only[zg1];omega),cond_true]
   simp only[H0,Y6,f67,qns,zhg,zg6,zg1,zha,zhe,qco,qfk,Sp.qjh,qah]at k ⊢;simp(maxSteps:=1000000) (disch:=((try dsimp only);omega)) only[↓gsA,gsB]
   rw[show(((l1.length+(l2.length+1):Nat)):Int)=(l1.length:Int)+((l2.length:Int)+1)by omega]at k;rw[k];simp(maxSteps:=1000000) (disch:=((try dsimp only);omega)) only[↓gsA,gsB]
   rfl
  rw[step];simp only[zg6,zg1,zg7,zib,ziy,zg9]at ih;simp only[zhg,zg1];rw[show l1.length+(l2.length+1)=l1.length+1+l2.length by omega];exact ih
theorem q83(b:Block):qac.dn (qns b)=some (Sp.qcq b):=rfl
theorem qrw:∀(l:List Block),Sp.q6q qac.dn (l.map qns)=some (l.map Sp.qcq)
 |[]=>rfl
 |b::l=>by simp only[zhg,Sp.q6q,q83,qrw l]
theorem qya(b:Block):qac.up (Sp.qcq b)=qns b:=rfl
def Sp.q6i(f:Fn):List Block×RS:=qgn (Sp.rAt f) (Sp.order f) (fun _=>none,[])
def Sp.qkn(f:Fn):Fn:=⟨f.name,(Sp.q6i f).2.2,f.qao,f.streams,f.qa4,(Sp.q6i f).1.map (Sp.q90 (q4n (Sp.order f) 0 fun _=>none))⟩
structure Rn(f:Fn):Prop where
 ok:f.ok
 W:f.qab.length<=100000
 B:f.blocks.length<=100000
 sm:∀i,i<f.blocks.length->SmB (f.blocks.getD i Block.z)
 rng:∀b∈Sp.order f,0<=b/\b<f.blocks.length
 nd:(Sp.order f).Nodup
 len:(Sp.order f).length<=100000
theorem q06(W:List Int):free W (fun _=>none)=W.length:=by
 unfold free;have:∀n,(List.range n).countP (fun(_:Nat)=>true)=n:=fun n=>by simp[List.countP_eq_length.2]
 simp
theorem zen(W:List Int):qhr W (fun _=>none,[]):=by
 unfold qhr;simp[q06]
theorem q9d(f:Fn):blS f []=f.blocks.map qns:=by
 refine zih (by simp[blS]) fun i h1 h2=>?_;have h3:i<f.blocks.length:=by simpa[blS]using h1
 simp only[blS,ziv,zin,List.any_nil,zhs,if_false,zg0,zhb h3,zhi]
theorem q70(f:Fn)(h:Rn f):∀b∈(Sp.q6i f).1,b.term.to.length<=100000:=by
 have key:∀(l:List Int) (s:RS),(∀b∈l,0<=b/\b<f.blocks.length)->∀b∈(qgn (Sp.rAt f) l s).1,b.term.to.length<=100000:=by
  intro l
  induction l with
  |nil=>intro s _ b hb;cases hb
  |cons v l ih=>
   intro s hv b hb;rcases zhr.1 hb with e|e
   ·subst e;have:=(h.sm v.toNat (by have:=hv v (zg5 ..);omega)).2.2.1
    show((Sp.rTo _ _ _).1).length<=_;unfold Sp.rTo;rw[qh8];exact this
   ·exact ih _ (fun b hb=>hv b (zg8 _ hb)) b e
 exact key _ _ h.rng
theorem ok26(f:Fn)(h:Rn f):go26 f=some ((f.name,((),((),((),((),((),())))))),((Sp.qkn f).qab,(f.qao,(f.streams,(f.qa4,((Sp.qkn f).blocks.map Sp.qcq,())))))):=by
 have e1:(Fn.mk f.name f.qab f.qao f.streams f.qa4 (List.map qaa.dat (List.map Sp.qcq f.blocks)))=f:=by
  rw[List.map_map,show(qaa.dat∘Sp.qcq)=id from funext qsk,List.map_id]
 have k:=qvu f Fn.z h.W h.sm (Sp.order f) h.len (Sp.order f) [] (fun _=>none) [] (fun _=>none,[]) rfl h.rng h.nd (fun _ _ hc=>by cases hc) (zen _) rfl;have k0:((0:Nat):Int)=0:=rfl;simp only[zg7,zhv,k0]at k;rw[q9d]at k;have hl:(Sp.q6i f).1.length=(Sp.order f).length:=qh8 _ _ _;have k2:=qvr ⟨f.name,f.qab,f.qao,f.streams,f.qa4,Fn.z,q4n (Sp.order f) 0 fun _=>none,[],0,0,0,0,0,Sp.order f,blS f (Sp.order f)⟩ (Sp.q6i f).2.2 (Sp.q6i f).1 [] (by rw[hl];simpa using h.len) (q70 f h)
 simp only[zg7,zhv,zg9,k0]at k2;unfold Y1 H1 H0 f67 at k;unfold Y6 H0 HE f67 at k2;unfold go26;rw[qas h.ok,qah];simp only[e1];rw[qas h.ok,qah];simp only[List.map_map];rw[show(qac.up∘Sp.qcq)=qns from funext qya,k,qah];simp only[zha];rw[show qgn (Sp.rAt f) (Sp.order f) (fun _=>none,[])=Sp.q6i f from rfl,k2,qah];simp only[qrw,qah,qjd];rfl
end
end Go.Abs
namespace Go.Abs
open Go Go.Proofs
noncomputable section
def q27(V:List Int)(v:Int):Int:=V.getD v.toNat 0
def qiz(V:List Int)(x:qau):qau:=⟨x.op,if 0<=x.dest then q27 V x.dest else x.dest,x.args.map (q27 V),x.num,x.mem⟩
def qnw(V B:List Int)(e:Edge):Edge:=⟨q27 B e.block,e.args.map (q27 V)⟩
def zb5(V B:List Int)(b:Block):Block:=⟨b.params.map (q27 V),b.insts.map (qiz V),⟨b.term.kind,if 0<=b.term.cond then q27 V b.term.cond else -1,b.term.to.map (qnw V B),b.term.qa4.map (q27 V)⟩,b.qar,b.qba,b.line⟩
theorem q36{l V:List Int}{n:Nat}(h1:l.length<=100000)(h2:∀v∈l,0<=v/\v<(n:Int))(hV:V.length=n):l.length<=(100000:Nat)/\∀i0:Nat,i0<l.length->0<=l.getD i0 0/\l.getD i0 0<((V.length:Nat):Int):=
 ⟨h1,fun i hi=>by
  rw[hV];refine h2 _ ?_;rw[zg0,zhb hi];exact zh4 hi⟩
def Y9(i k:Int):Unit×(Unit×(Unit×(Unit×(Unit×(Unit×(Int×(Unit×(Unit×(Int×Unit))))))))):=((),((),((),((),((),((),(i,((),((),(k,()))))))))))
def V9(i:Int):Unit×(Unit×(Unit×(Unit×(Unit×(Unit×(Int×(Unit×(Unit×Unit)))))))):=((),((),((),((),((),((),(i,((),((),())))))))))
structure K7 where
 f:Fn
 z:Fn
 ord:List Int
 V:List Int
 B:List Int
 kd:Int
 cd:Int
 pp:Int
 un:Int
 ln:Int
 w:List Int
 ob:List Block
 ps:List Int
abbrev GB:=ByteArray×(Unit×(List Arr×(List qbp×(List Int×(Unit×Unit)))))
def x7(K:K7):X9:=((),((),(K.kd,(K.cd,((),((),(K.pp,(K.un,(K.ln,())))))))))
def H7(K:K7)(b:Block)(is:List qau):Fn×(Fn×(List Int×(List Int×(List Int×(GB×(Block×(X9×(List Int×(List Block×(List Int×(List qau×Unit))))))))))):=
 (K.f,(K.z,(K.ord,(K.V,(K.B,(G7 K.f,(b,(x7 K,(K.w,(K.ob,(K.ps,(is,()))))))))))))
def H8(K:K7)(b:Block)(is:List qau)(to:List Edge)(rs:List Int):Fn×(Fn×(List Int×(List Int×(List Int×(GB×(Block×(X9×(List Int×(List Block×(List Int×(List qau×(List Edge×(List Int×Unit))))))))))))):=
 (K.f,(K.z,(K.ord,(K.V,(K.B,(G7 K.f,(b,(x7 K,(K.w,(K.ob,(K.ps,(is,(to,(rs,()))))))))))))))
def H9(K:K7)(is:List qau)(to:List Edge)(rs:List Int):Fn×(Fn×(List Int×(List Int×(List Int×(GB×(X9×(List Int×(List Block×(List Int×(List qau×(List Edge×(List Int×Unit)))))))))))):=
 (K.f,(K.z,(K.ord,(K.V,(K.B,(G7 K.f,(x7 K,(K.w,(K.ob,(K.ps,(is,(to,(rs,())))))))))))))
theorem qvl(K:K7)(hV:K.V.length=K.f.qab.length)(b:Block)(i:Int):∀(l2 l1:List qau),b.insts=l1++l2->(∀x∈l2,x.dest<K.f.qab.length)->(∀x∈l2,x.args.length<=100000)->(∀x∈l2,∀v∈x.args,0<=v/\v<K.f.qab.length)->l1.length+l2.length<=100000 ->
  qap go27_l7 (Y9 i l1.length,H7 K b (l1.map (qiz K.V)))=some (V9 i,H7 K b (b.insts.map (qiz K.V)))
 |[],l1,hp,hd,ha,hr,hl=>by
  rw[zht]at hp;rw[qa8];unfold go27_l7 H7 Y9;simp only[hp];simp(maxSteps:=1000000) (disch:=((try dsimp only);omega)) only[↓gsA,gsB]
  rfl
 |v::l2,l1,hp,hd,ha,hr,hl=>by
  have v1:=hd v (zg5 ..);have v2:=q36 (ha v (zg5 ..)) (hr v (zg5 ..)) hV;simp only[zg1]at hl;have ih:=qvl K hV b i l2 (l1++[v]) (by rw[hp];simp) (fun v h=>hd v (zg8 _ h)) (fun v h=>ha v (zg8 _ h)) (fun v h=>hr v (zg8 _ h)) (by simp only[zg6,zg1,zg7];omega)
  rw[qa8];have step:go27_l7 (Y9 i l1.length,H7 K b (l1.map (qiz K.V)))=some (.inl (Y9 i ((l1.length+1:Nat):Int),H7 K b ((l1++[v]).map (qiz K.V)))):=by
   rw[zix];unfold go27_l7 go27_j3 H7 Y9;simp only[hp,zhe,qco,zg6,zg1];rw[show okB _=true from ql9 v2];by_cases h0:0<=v.dest
   ·have em:qiz K.V v=⟨v.op,q27 K.V v.dest,v.args.map (q27 K.V),v.num,v.mem⟩:=by unfold qiz;rw[if_pos h0]
    simp only[zhg,zik,em];simp(maxSteps:=1000000) (disch:=((try dsimp only);omega)) only[↓gsA,gsB]
    simp only[zha];simp(maxSteps:=1000000) (disch:=((try dsimp only);omega)) only[↓gsA,gsB]
    rfl
   ·have em:qiz K.V v=⟨v.op,v.dest,v.args.map (q27 K.V),v.num,v.mem⟩:=by unfold qiz;rw[if_neg h0]
    simp only[zhg,zik,em];simp(maxSteps:=1000000) (disch:=((try dsimp only);omega)) only[↓gsA,gsB]
    simp only[zha];simp(maxSteps:=1000000) (disch:=((try dsimp only);omega)) only[↓gsA,gsB]
    rfl
  rw[step];simp only[zg6,zg1,zg7,zg9]at ih;exact ih
theorem qvk(K:K7)(hV:K.V.length=K.f.qab.length)(hB:K.B.length=K.f.blocks.length)(b:Block)(is:List qau)(rs:List Int)(i:Int):∀(l2 l1:List Edge),b.term.to=l1++l2->(∀x∈l2,0<=x.block/\x.block<K.f.blocks.length)->(∀x∈l2,x.args.length<=100000)->(∀x∈l2,∀v∈x.args,0<=v/\v<K.f.qab.length)->l1.length+l2.length<=100000 ->
  qap go27_l8 (Y9 i l1.length,H8 K b is (l1.map (qnw K.V K.B)) rs)=some (W27 i,H9 K is (b.term.to.map (qnw K.V K.B)) rs)
 |[],l1,hp,hd,ha,hr,hl=>by
  rw[zht]at hp;rw[qa8];unfold go27_l8 H8 Y9;simp only[hp];simp(maxSteps:=1000000) (disch:=((try dsimp only);omega)) only[↓gsA,gsB]
  rfl
 |v::l2,l1,hp,hd,ha,hr,hl=>by
  obtain⟨v0,v1⟩:=hd v (zg5 ..);have v2:=q36 (ha v (zg5 ..)) (hr v (zg5 ..)) hV;simp only[zg1]at hl;have ih:=qvk K hV hB b is rs i l2 (l1++[v]) (by rw[hp];simp) (fun v h=>hd v (zg8 _ h)) (fun v h=>ha v (zg8 _ h)) (fun v h=>hr v (zg8 _ h)) (by simp only[zg6,zg1,zg7];omega)
  rw[qa8];have step:go27_l8 (Y9 i l1.length,H8 K b is (l1.map (qnw K.V K.B)) rs)=some (.inl (Y9 i ((l1.length+1:Nat):Int),H8 K b is ((l1++[v]).map (qnw K.V K.B)) rs)):=by
   rw[zix];unfold go27_l8 go27_j5 H8 Y9;simp only[hp,zhe,qco,zg6,zg1];rw[show okB _=true from ql9 v2];simp(maxSteps:=1000000) (disch:=((try dsimp only);omega)) only[↓gsA,gsB]
   simp only[qah,qjd,zha];simp(maxSteps:=1000000) (disch:=((try dsimp only);omega)) only[↓gsA,gsB]
   rfl
  rw[step];simp only[zg6,zg1,zg7,zg9]at ih;exact ih
abbrev TJ:=Fn×(Fn×(List Int×(List Int×(List Int×(GB×(List Int×(List Block×Unit)))))))
def J27(f z:Fn)(ord V B w:List Int)(ob:List Block):TJ:=(f,(z,(ord,(V,(B,(G7 f,(w,(ob,()))))))))
def SmI(b:Block)(f:Fn):Prop:=SmB b/\RgB f b
theorem zb9(K:K7)(hV:K.V.length=K.f.qab.length)(hB:K.B.length=K.f.blocks.length)(b:Block)(hb:SmI b K.f)(is:List qau)(rs:List Int)(i:Nat)(hi:i<=100000)(ho:K.ob.length<=100000) :
  go27_j4 (V9 i,(K.f,(K.z,(K.ord,(K.V,(K.B,(G7 K.f,(b,(x7 K,(K.w,(K.ob,(K.ps,(is,(rs,()))))))))))))))=some (.inl (Z27 ((i+1:Nat):Int),J27 K.f K.z K.ord K.V K.B K.w (K.ob++[⟨K.ps,is,⟨K.kd,K.cd,b.term.to.map (qnw K.V K.B),rs⟩,K.pp,K.un,K.ln⟩]))):=by
 obtain⟨⟨s1,s2,s3,s4,s5,s6⟩,rg⟩:=hb;have k:=qvk K hV hB b is rs i b.term.to [] rfl rg.es s6 rg.ea (by simpa using s3);have k0:((0:Nat):Int)=0:=rfl;simp only[zg7,k0,zik]at k;unfold go27_j4;have e:qap go27_l8 (((),(),(),(),(),(),(i:Int),(),(),(0:Int),()),K.f,K.z,K.ord,K.V,K.B,((G7 K.f).1,(),(G7 K.f).2.2.1,(G7 K.f).2.2.2.1,(G7 K.f).2.2.2.2.1,(),()),b,((),(),(x7 K).2.2.1,(x7 K).2.2.2.1,(),(),(x7 K).2.2.2.2.2.2.1,(x7 K).2.2.2.2.2.2.2.1,(x7 K).2.2.2.2.2.2.2.2.1,()),K.w,K.ob,K.ps,is,[],rs,())=_:=k;simp only[V9];rw[e];unfold H9 W27;simp(maxSteps:=1000000) (disch:=((try dsimp only);omega)) only[↓gsA,gsB]
 rfl
theorem ze8(K:K7)(hV:K.V.length=K.f.qab.length)(hB:K.B.length=K.f.blocks.length)(b:Block)(hb:SmI b K.f)(i:Nat)(hi:i<=100000)(ho:K.ob.length<=100000) :
  go27_j2 (V9 i,(K.f,(K.z,(K.ord,(K.V,(K.B,(G7 K.f,(b,(x7 K,(K.w,(K.ob,(K.ps,()))))))))))))= some (.inl (Z27 ((i+1:Nat):Int),J27 K.f K.z K.ord K.V K.B K.w (K.ob++[⟨K.ps,b.insts.map (qiz K.V),⟨b.term.kind,if 0<=b.term.cond then q27 K.V b.term.cond else -1,b.term.to.map (qnw K.V K.B),b.term.qa4.map (q27 K.V)⟩,K.pp,K.un,K.ln⟩]))):=by
 have hb':=hb;obtain⟨⟨s1,s2,s3,s4,s5,s6⟩,rg⟩:=hb;have k:=qvl K hV b i b.insts [] rfl rg.ds s5 rg.ar (by simpa using s2);have k0:((0:Nat):Int)=0:=rfl;simp only[zg7,k0,zik]at k;have v2:=q36 s4 rg.rs hV;have v3:=rg.cd;unfold go27_j2;have e:qap go27_l7 (((),(),(),(),(),(),(i:Int),(),(),(0:Int),()),K.f,K.z,K.ord,K.V,K.B,((G7 K.f).1,(),(G7 K.f).2.2.1,(G7 K.f).2.2.2.1,(G7 K.f).2.2.2.2.1,(),()),b,((),(),(x7 K).2.2.1,(x7 K).2.2.2.1,(),(),(x7 K).2.2.2.2.2.2.1,(x7 K).2.2.2.2.2.2.2.1,(x7 K).2.2.2.2.2.2.2.2.1,()),K.w,K.ob,K.ps,[],())=_:=k;simp only[V9];rw[e];unfold H7;simp only[qah];rw[show okB _=true from ql9 v2];simp only[qcw,qah,qd9];by_cases h0:0<=b.term.cond
 ·have j:=zb9 { K with kd:=b.term.kind,cd:=q27 K.V b.term.cond } hV hB b hb' (b.insts.map (qiz K.V)) (b.term.qa4.map (q27 K.V)) i hi ho;rw[if_pos h0,decide_eq_true h0,cond_true,qas ⟨h0,by omega⟩,qdc (show b.term.cond.toNat<K.V.length by omega),qcw];exact j
 ·have j:=zb9 { K with kd:=b.term.kind,cd:=-1 } hV hB b hb' (b.insts.map (qiz K.V)) (b.term.qa4.map (q27 K.V)) i hi ho;rw[if_neg h0,decide_eq_false h0,cond_false];exact j
theorem qvm(f z:Fn)(hsm:∀i,i<f.blocks.length->SmI (f.blocks.getD i Block.z) f)(ord V B w:List Int)(hV:V.length=f.qab.length)(hB:B.length=f.blocks.length)(hn:ord.length<=100000):∀(l2 l1:List Int) (ob:List Block),ord=l1++l2->(∀b∈l2,0<=b/\b<f.blocks.length)->ob.length=l1.length ->
  qap go27_l6 (Z27 l1.length,J27 f z ord V B w ob)=some ((((),((),())):Unit×(Unit×Unit)),(z,(G7 f,(w,(ob++l2.map (fun b=>zb5 V B (f.blocks.getD b.toNat Block.z)),())))))
 |[],l1,ob,ho,hr,hol=>by
  rw[zht]at ho;rw[qa8];unfold go27_l6 J27 Z27;simp only[ho,zik,zht];simp(maxSteps:=1000000) (disch:=((try dsimp only);omega)) only[↓gsA,gsB]
 |b::l2,l1,ob,ho,hr,hol=>by
  obtain⟨hb0,hb1⟩:=hr b (zg5 ..);have hlen:l1.length+(l2.length+1)=ord.length:=by rw[ho];simp
  have hs:=hsm b.toNat (by omega);have v2:=q36 hs.1.1 hs.2.ps hV;have ih:=qvm f z hsm ord V B w hV hB hn l2 (l1++[b]) (ob++[zb5 V B (f.blocks.getD b.toNat Block.z)]) (by rw[ho];simp) (fun b hb=>hr b (zg8 _ hb)) (by simp[hol])
  rw[qa8];have step:go27_l6 (Z27 l1.length,J27 f z ord V B w ob)=some (.inl (Z27 ((l1.length+1:Nat):Int),J27 f z ord V B w (ob++[zb5 V B (f.blocks.getD b.toNat Block.z)]))):=by
   have ho2:ord.getD l1.length 0=b:=by rw[ho];exact qco _ _ _ _
   have j:=ze8 ⟨f,z,ord,V,B,0,0,(f.blocks.getD b.toNat Block.z).qar,(f.blocks.getD b.toNat Block.z).qba,(f.blocks.getD b.toNat Block.z).line,w,ob,(f.blocks.getD b.toNat Block.z).params.map (q27 V)⟩ hV hB (f.blocks.getD b.toNat Block.z) hs l1.length (by omega) (by show ob.length<=_;omega)
   unfold go27_l6 J27 Z27;simp only[zhe,ho2];simp(maxSteps:=1000000) (disch:=((try dsimp only);omega)) only[↓gsA,gsB]
   simp only[qjd];exact j
  rw[step];simp only[zg6,zg1,zg7,zg9,zib,ziy]at ih;simp only[zhg];exact ih
theorem qfu(f:Fn):qb8 f []=List.replicate f.blocks.length false:=by
 refine zih (by simp[qb8]) fun i h1 h2=>?_;simp[qb8]
theorem q4q(f z:Fn)(ord:List Int)(h:f.qab.length<=100000):qap go27_l1 (Y6 (f.qab.length:Int) 0,((f,(z,(ord,(([]:List Int),())))):Fn×(Fn×(List Int×(List Int×Unit)))))=some ((((),((),((),((),((),()))))):U5),((f,(z,(ord,(List.replicate f.qab.length (-1:Int),())))):Fn×(Fn×(List Int×(List Int×Unit))))):=by
 refine qct (st:=fun i=>(Y6 (f.qab.length:Int) i,((f,(z,(ord,(List.replicate i (-1:Int),())))):Fn×(Fn×(List Int×(List Int×Unit)))))) rfl f.qab.length (fun i hi=>?_) ?_
 ·have hl:(List.replicate i (-1:Int)).length=i:=zia;rw[List.replicate_succ'];unfold go27_l1 Y6;simp(maxSteps:=1000000) (disch:=((try dsimp only);omega)) only[↓gsA,gsB]
 ·unfold go27_l1 Y6;simp(maxSteps:=1000000) (disch:=((try dsimp only);omega)) only[↓gsA,gsB]
theorem q4p(f z:Fn)(ord V:List Int)(h:f.blocks.length<=100000):qap go27_l2 (Y6 (f.blocks.length:Int) 0,((f,(z,(ord,(V,(([]:List Int),()))))):Fn×(Fn×(List Int×(List Int×(List Int×Unit))))))=some ((((),((),((),((),((),()))))):U5),((f,(z,(ord,(V,(List.replicate f.blocks.length (-1:Int),()))))):Fn×(Fn×(List Int×(List Int×(List Int×Unit)))))):=by
 refine qct (st:=fun i=>(Y6 (f.blocks.length:Int) i,((f,(z,(ord,(V,(List.replicate i (-1:Int),()))))):Fn×(Fn×(List Int×(List Int×(List Int×Unit))))))) rfl f.blocks.length (fun i hi=>?_) ?_
 ·have hl:(List.replicate i (-1:Int)).length=i:=zia;rw[List.replicate_succ'];unfold go27_l2 Y6;simp(maxSteps:=1000000) (disch:=((try dsimp only);omega)) only[↓gsA,gsB]
 ·unfold go27_l2 Y6;simp(maxSteps:=1000000) (disch:=((try dsimp only);omega)) only[↓gsA,gsB]
structure Rr(f:Fn):Prop where
 rn:Rn f
 es:qqs f
 pos:0<f.blocks.length
 rg:∀i,i<f.blocks.length->RgB f (f.blocks.getD i Block.z)
def Sp.q71(f:Fn):VW:=(Sp.order f).foldl (Sp.q5a f) (List.replicate f.qab.length (-1),[])
def Sp.rbk(f:Fn):List Int:=q2q (Sp.order f) 0 (List.replicate f.blocks.length (-1))
def Sp.qkf(f:Fn):Fn:=⟨f.name,(Sp.q71 f).2,f.qao,f.streams,f.qa4,(Sp.order f).map fun b=>zb5 (Sp.q71 f).1 (Sp.rbk f) (f.blocks.getD b.toNat Block.z)⟩
theorem qv8(f:Fn):∀(l:List Int) (s:VW),(l.foldl (Sp.q5a f) s).1.length=s.1.length
 |[],s=>rfl
 |b::l,s=>by
  rw[zh8,qv8 f l];exact(qv7 _ _ _).1
theorem qwj:∀(l:List Int) (i:Nat) (B:List Int),(q2q l i B).length=B.length
 |[],_,_=>rfl
 |b::l,i,B=>by rw[q2q,qwj l];simp
theorem ok27(f:Fn)(h:Rr f):go27 f=some ((f.name,((),(f.qao,(f.streams,(f.qa4,((),())))))),((Sp.qkf f).qab,((Sp.qkf f).blocks,()))):=by
 have hp:=h.pos;have k1:=q4q f Fn.z (Sp.order f) h.rn.W;have k2:=q4p f Fn.z (Sp.order f) (List.replicate f.qab.length (-1)) h.rn.B;have k3:=qvp f Fn.z (fun i hi=>⟨h.rn.sm i hi,h.rg i hi⟩) (Sp.order f) h.rn.len (Sp.order f) [] (List.replicate f.blocks.length (-1)) (List.replicate f.qab.length (-1),[]) rfl h.rn.rng (by simp) (by simp) (by simp);have k6:=qvm f Fn.z (fun i hi=>⟨h.rn.sm i hi,h.rg i hi⟩) (Sp.order f) (Sp.q71 f).1 (Sp.rbk f) (Sp.q71 f).2 (by unfold Sp.q71;rw[qv8];simp) (by unfold Sp.rbk;rw[qwj];simp) h.rn.len (Sp.order f) [] [] rfl h.rn.rng rfl
 have k0:((0:Nat):Int)=0:=rfl;simp only[zg7,k0,zhv]at k3 k6;unfold Y6 at k1 k2;unfold Z27 I27 at k3;unfold Z27 J27 at k6;unfold go27;rw[qfu,qep];rw[qas (by refine⟨h.rn.ok,h.es,by omega,by omega,?_⟩;omega),qah]
 rw[show(Sp.visit f (f.blocks.length+1) 0 (List.replicate f.blocks.length false,[])).2=Sp.order f from rfl];simp only;rw[k1,qah];simp only;rw[k2,qah];simp only;have e3:=k3;unfold G7 at e3;rw[e3,qah];simp only;rw[show(Sp.order f).foldl (Sp.q5a f) (List.replicate f.qab.length (-1),[])=Sp.q71 f from rfl,show q2q (Sp.order f) 0 (List.replicate f.blocks.length (-1))=Sp.rbk f from rfl];have e6:=k6;unfold G7 at e6;rw[e6,qah];rfl
end
end Go.Abs
namespace Go.Abs
open Go Go.Proofs
noncomputable section
def c26:Ctr Try.prog:=qcn 26 Try.f26 Try.func26 [c25,c66,c67,c68] ann26 [(0,(.st 6))] [] (.agg [.s,.full 0,.full 1,.full 2,.full 3,.full 4]) [(.lst 3 (.int .i64)),(.lst 53 (.st 4)),(.lst 55 (.st 5)),(.lst 3 (.int .i64)),(.lst 41 (.st 11))]
 (fun x _=>grd (okB (Rn x.1)) (some ((x.1.name,((),((),((),((),((),())))))),((Sp.qkn x.1).qab,(x.1.qao,(x.1.streams,(x.1.qa4,((Sp.qkn x.1).blocks.map Sp.qcq,())))))))) (fun x _ r h=>FO (run26 x.1) (fun p=>ok26 x.1 p) h)
def c27:Ctr Try.prog:=qcn 27 Try.f27 Try.func27 [c69,c70] ann27 [(0,(.st 6))] [] (.agg [.s,.full 0,.fz (.st 4),.fz (.st 5),.fz (.int .i64),.full 1]) [(.lst 3 (.int .i64)),(.lst 41 (.st 3))]
 (fun x _=>grd (okB (Rr x.1)) (some ((x.1.name,((),(x.1.qao,(x.1.streams,(x.1.qa4,((),())))))),((Sp.qkf x.1).qab,((Sp.qkf x.1).blocks,()))))) (fun x _ r h=>FO (run27 x.1) (fun p=>ok27 x.1 p) h)
end
end Go.Abs
namespace Go.Abs
open Go Go.Proofs
noncomputable section
def ann7:Ann:=(.seq .o (.join ⟨[(1,(.ptr 0 0))],[(.box 30 (.st 6))]⟩ (.seq .o (.cond (.seq .o .o) .o)) (.seq .o (.seq (.x ⟨false,false,false,false,[],[],[0,0,2,7,15,31,63,127,255,511,1023,511,4095,8191,16383],(.rd 0 (.qu [1] (.on 2 (.on 3 (.on 4 (.on 5 (.on 6 (.on 7 (.on 8 (.rd 9 (.br 10 (.qu [11,12,13,14] .nil) (.br 11 (.on 10 (.qu [12,13,14] .nil)) .no))))))))))))⟩) .o))))
def go7(x0:Fn):(Option (Bool×Unit)):=(qak (grd (okB (Fn.ok x0)) (some ((Sp.few x0),()))) (fun r0=>(bif(!r0.1)then(some (true,()))else(qak (grd (okB (Fn.ok x0)) (some ((Sp.valid x0),()))) (fun r1=>(bif(!r1.1)then(some (true,()))else(qak (grd (okB (Rn x0)) (some ((x0.name,((),((),((),((),((),())))))),((Sp.qkn x0).qab,(x0.qao,(x0.streams,(x0.qa4,((@List.map Block qaa Sp.qcq (Sp.qkn x0).blocks),())))))))) (fun r2=>(qak (grd (okB (Rr x0)) (some ((x0.name,((),(x0.qao,(x0.streams,(x0.qa4,((),())))))),((Sp.qkf x0).qab,((Sp.qkf x0).blocks,()))))) (fun r3=>(qak (grd (okB (Fn.ok (Fn.mk r2.1.1 r2.2.1 r2.2.2.1 r2.2.2.2.1 r2.2.2.2.2.1 (@List.map qaa Block qaa.dat r2.2.2.2.2.2.1)))) (some ((Sp.qhx (Fn.mk r2.1.1 r2.2.1 r2.2.2.1 r2.2.2.2.1 r2.2.2.2.2.1 (@List.map qaa Block qaa.dat r2.2.2.2.2.2.1)) (Fn.mk r3.1.1 r3.2.1 r3.1.2.2.1 r3.1.2.2.2.1 r3.1.2.2.2.2.1 r3.2.2.1)),()))) (fun r4=>(bif r4.1 then(qak (grd (okB (Fn.ok (Fn.mk r2.1.1 r2.2.1 r2.2.2.1 r2.2.2.2.1 r2.2.2.2.2.1 (@List.map qaa Block qaa.dat r2.2.2.2.2.2.1)))) (some ((Sp.valid (Fn.mk r2.1.1 r2.2.1 r2.2.2.1 r2.2.2.2.1 r2.2.2.2.2.1 (@List.map qaa Block qaa.dat r2.2.2.2.2.2.1))),()))) (fun r5=>(bif r5.1 then(brO (qak (grd (okB (Rn (Fn.mk r2.1.1 r2.2.1 r2.2.2.1 r2.2.2.2.1 r2.2.2.2.2.1 (@List.map qaa Block qaa.dat r2.2.2.2.2.2.1)))) (some ((r2.1.1,((),((),((),((),((),())))))),((Sp.qkn (Fn.mk r2.1.1 r2.2.1 r2.2.2.1 r2.2.2.2.1 r2.2.2.2.2.1 (@List.map qaa Block qaa.dat r2.2.2.2.2.2.1))).qab,(r2.2.2.1,(r2.2.2.2.1,(r2.2.2.2.2.1,((@List.map Block qaa Sp.qcq (Sp.qkn (Fn.mk r2.1.1 r2.2.1 r2.2.2.1 r2.2.2.2.1 r2.2.2.2.2.1 (@List.map qaa Block qaa.dat r2.2.2.2.2.2.1))).blocks),())))))))) (fun r6=>(grd (okB (@LV.ffP _ _ (@LV.mk _ (41:Go.TypeId) (Ty.st 11) r6.2.2.2.2.2.1))) (qak (grd (okB (Fn.ok (Fn.mk r6.1.1 r6.2.1 r6.2.2.1 r6.2.2.2.1 r6.2.2.2.2.1 (@List.map qaa Block qaa.dat r6.2.2.2.2.2.1)))) (some ((Sp.qhx (Fn.mk r6.1.1 r6.2.1 r6.2.2.1 r6.2.2.2.1 r6.2.2.2.2.1 (@List.map qaa Block qaa.dat r6.2.2.2.2.2.1)) (Fn.mk r2.1.1 r2.2.1 r2.2.2.1 r2.2.2.2.1 r2.2.2.2.2.1 (@List.map qaa Block qaa.dat r2.2.2.2.2.2.1))),()))) (fun r7=>(some (r7.1,()))))))) (qak (grd (okB (Rn (Fn.mk r2.1.1 r2.2.1 r2.2.2.1 r2.2.2.2.1 r2.2.2.2.2.1 (@List.map qaa Block qaa.dat r2.2.2.2.2.2.1)))) (some ((r2.1.1,((),((),((),((),((),())))))),((Sp.qkn (Fn.mk r2.1.1 r2.2.1 r2.2.2.1 r2.2.2.2.1 r2.2.2.2.2.1 (@List.map qaa Block qaa.dat r2.2.2.2.2.2.1))).qab,(r2.2.2.1,(r2.2.2.2.1,(r2.2.2.2.2.1,((@List.map Block qaa Sp.qcq (Sp.qkn (Fn.mk r2.1.1 r2.2.1 r2.2.2.1 r2.2.2.2.1 r2.2.2.2.2.1 (@List.map qaa Block qaa.dat r2.2.2.2.2.2.1))).blocks),())))))))) (fun r6=>(grd (okB (@LV.ffP _ _ (@LV.mk _ (41:Go.TypeId) (Ty.st 11) r6.2.2.2.2.2.1))) (qak (grd (okB (Fn.ok (Fn.mk r6.1.1 r6.2.1 r6.2.2.1 r6.2.2.2.1 r6.2.2.2.2.1 (@List.map qaa Block qaa.dat r6.2.2.2.2.2.1)))) (some ((Sp.qhx (Fn.mk r6.1.1 r6.2.1 r6.2.2.1 r6.2.2.2.1 r6.2.2.2.2.1 (@List.map qaa Block qaa.dat r6.2.2.2.2.2.1)) (Fn.mk r2.1.1 r2.2.1 r2.2.2.1 r2.2.2.2.1 r2.2.2.2.2.1 (@List.map qaa Block qaa.dat r2.2.2.2.2.2.1))),()))) (fun r7=>(some (r7.1,()))))))))else(brO (some (false,())) (some (false,()))))))else(brO (some (false,())) (some (false,()))))))))))))))))
theorem run7(x0:Fn):qei (P:=Try.prog) [c12,c17,c18,c24,c26,c27] Try.f7 ann7 [(0,(.st 6))] [] .b [] (x0,()) ()=go7 x0:=by kernel_rfl
end
end Go.Abs
namespace Go.Abs
open Go Go.Proofs
noncomputable section
def zb8(o:List (List Int))(m:Nat):Prop:=∀l,l∈o->l.length<=m
theorem zb8.getD{o:List (List Int)}{m:Nat}(h:zb8 o m)(s:Nat):(o.getD s []).length<=m:=by
 rw[zg0];by_cases hs:s<o.length
 ·rw[zhb hs];exact h _ (zh4 hs)
 ·rw[ziw (by omega)];exact Nat.zero_le _
end
end Go.Abs
namespace Go.Abs
open Go Go.Proofs
noncomputable section
def Sp.leads(f:Fn)(b s:Nat):Bool:=(f.blocks.getD b Block.z).term.to.any fun e=>decide (e.block=(s:Int))
end
end Go.Abs
namespace Go.Abs
open Go Go.Proofs
noncomputable section
theorem qiw(f:Fn):(Sp.order f).length<=f.blocks.length:=by
 have:=(qeu f (f.blocks.length+1) 0 (List.replicate f.blocks.length false,[])).2.1;simp only[qep,zg7]at this;unfold Sp.order;omega
end
end Go.Abs
namespace Go.Abs
open Go Go.Proofs
noncomputable section
def seen(o:List Bool)(x:Nat):Prop:=o.getD x false=true
theorem zek{o:List Bool}{x:Nat}(h:seen o x):x<o.length:=by
 unfold seen at h;rw[zg0]at h;refine Classical.byContradiction fun hn=>?_;rw[ziw (by omega)]at h;simp at h
theorem qkz{o:List Bool}{x y:Nat}:seen (o.set y true) x↔seen o x\/(x=y/\y<o.length):=by
 unfold seen;simp only[zg0,List.getElem?_set];by_cases h:y=x
 ·subst h;rw[if_pos rfl];by_cases hl:y<o.length
  ·rw[if_pos hl];simp[hl]
  ·rw[if_neg hl,ziw (by omega)];simp[hl]
 ·rw[if_neg h]
  constructor
  ·exact .inl
  ·rintro(h1|⟨h1,_⟩)
   ·exact h1
   ·exact absurd h1.symm h
theorem quw{n x:Nat}:¬ seen (List.replicate n false) x:=by
 unfold seen;rw[zg0,List.getElem?_replicate]
 split<;>simp
theorem qr2{f:Fn}{b s:Nat}:Sp.leads f b s=true↔∃e∈(f.blocks.getD b Block.z).term.to,e.block=(s:Int):=by
 simp[Sp.leads,List.any_eq_true]
structure Vis(f:Fn)(s s':List Bool×List Int):Prop where
 len:s'.1.length=s.1.length
 mono:∀x,seen s.1 x->seen s'.1 x
 closed:∀x,seen s'.1 x->¬ seen s.1 x->∀y,y<s.1.length->Sp.leads f x y=true->seen s'.1 y
 out:(∀x:Nat,seen s.1 x↔(x:Int)∈s.2)->∀x:Nat,seen s'.1 x↔(x:Int)∈s'.2
 un:qbk s'.1<=qbk s.1
theorem Vis.refl(f:Fn)(s:List Bool×List Int):Vis f s s:=⟨rfl,fun _ h=>h,fun x h hn=>absurd h hn,fun h=>h,zg3 _⟩
theorem Vis.trans{f:Fn}{a b c:List Bool×List Int}(h:Vis f a b)(k:Vis f b c):Vis f a c:=
 ⟨k.len.trans h.len,fun x hx=>k.mono x (h.mono x hx),fun x hx hn y hy hl=>by
  by_cases hb:seen b.1 x
  ·exact k.mono y (h.closed x hb hn y hy hl)
  ·exact k.closed x hx hb y (by rw[h.len];exact hy) hl,fun ho=>k.out (h.out ho),zhy k.un h.un⟩
theorem qv2{f:Fn}{n:Nat}(ih:∀(b:Int) (s:List Bool×List Int),qbk s.1<n->Vis f s (Sp.visit f n b s)/\(0<=b->b<(s.1.length:Int)->seen (Sp.visit f n b s).1 b.toNat)) :
  ∀(l:List Edge) (s:List Bool×List Int),qbk s.1<n->Vis f s (l.foldl (fun s e=>Sp.visit f n e.block s) s)/\∀e∈l,0<=e.block->e.block<(s.1.length:Int)->seen (l.foldl (fun s e=>Sp.visit f n e.block s) s).1 e.block.toNat
 |[],s,h=>⟨Vis.refl f s,fun e he=>by cases he⟩
 |a::l,s,h=>by
  obtain⟨h1,h2⟩:=ih a.block s h;obtain⟨h3,h4⟩:=qv2 ih l (Sp.visit f n a.block s) (Nat.lt_of_le_of_lt h1.un h);refine⟨h1.trans h3,fun e he p1 p2=>?_⟩;rcases zhr.1 he with rfl|he
  ·exact h3.mono _ (h2 p1 p2)
  ·exact h4 e he p1 (by rw[h1.len];exact p2)
theorem qqz(f:Fn):∀(n:Nat) (b:Int) (s:List Bool×List Int),qbk s.1<n->Vis f s (Sp.visit f n b s)/\(0<=b->b<(s.1.length:Int)->seen (Sp.visit f n b s).1 b.toNat)
 |0,b,s,h=>by omega
 |n+1,b,s,h=>by
  unfold Sp.visit;split
  ·rename_i hb;exact⟨Vis.refl f s,fun p1 p2=>by omega⟩
  ·rename_i hb;split
   ·rename_i hs;exact⟨Vis.refl f s,fun _ _=>hs⟩
   ·rename_i hs;have hlt:b.toNat<s.1.length:=by omega
    have hu:=qfr hlt (by simpa using hs);obtain⟨h3,h4⟩:=qv2 (qqz f n) (f.blocks.getD b.toNat Block.z).term.to (s.1.set b.toNat true,s.2++[b]) (by simp only;omega)
    generalize (f.blocks.getD b.toNat Block.z).term.to.foldl (fun s e=>Sp.visit f n e.block s) (s.1.set b.toNat true,s.2++[b])=s' at h3 h4;have hb1:seen (s.1.set b.toNat true) b.toNat:=qkz.2 (.inr ⟨rfl,hlt⟩);refine⟨⟨by rw[h3.len];simp,fun x hx=>h3.mono x (qkz.2 (.inl hx)),fun x hx hn y hy hl=>?_,fun ho=>h3.out fun x=>?_,by have:=h3.un;simp only at this;omega⟩,fun _ _=>h3.mono _ hb1⟩
    ·by_cases hxb:x=b.toNat
     ·subst hxb;obtain⟨e,he,e1⟩:=qr2.1 hl;have:=h4 e he (by omega) (by simp only[List.length_set];omega)
      rwa [e1,zhe]at this
     ·refine h3.closed x hx (fun hx2=>?_) y (by simpa using hy) hl;rcases qkz.1 hx2 with h5|⟨h5,_⟩
      ·exact hn h5
      ·exact hxb h5
    ·rw[qkz,zhj,ho x];simp only[zh7]
     constructor
     ·rintro(h5|⟨h5,_⟩)
      ·exact .inl h5
      ·exact .inr (by omega)
     ·rintro(h5|h5)
      ·exact .inl h5
      ·exact .inr ⟨by omega,hlt⟩
end
end Go.Abs
namespace Go.Abs
open Go Go.Proofs
noncomputable section
theorem qkw{f:Fn}(h:Sp.valid f=true):∀b∈f.blocks,b.term.to.length<=2/\∀e∈b.term.to,0<=e.block/\e.block<(f.blocks.length:Int):=fun b hb=>by
 unfold Sp.valid at h;simp only[zgz,Option.isSome_iff_exists]at h;obtain⟨_,s',h⟩:=h;obtain⟨s1,s2,h⟩:=qe3 _ _ _ h b hb;unfold Sp.qcp at h;split at h
 ·split at h
  ·split at h
   ·split at h
    ·rename_i ht;unfold Sp.qdl at ht;simp only[zgz,zhm,decide_eq_true_eq]at ht;obtain⟨⟨⟨_,h1,_⟩,_⟩,h2⟩:=ht;refine⟨?_,fun e he=>?_⟩
     ·unfold Sp.qeq at h1;split at h1
      ·omega
      ·split at h1<;>omega
     ·have:=h2 e he;unfold Sp.qc8 at this;simp only[zgz,zhn,decide_eq_false_iff_not]at this;omega
    ·cases h
   ·cases h
  ·cases h
 ·cases h
end
end Go.Abs
namespace Go.Abs
open Go Go.Proofs
noncomputable section
def qm0(p:Nat->Bool):Nat->Nat->Option Nat
 |0,_=>none
 |n+1,i=>if p i=true then some i else qm0 p n (i+1)
theorem qho{p:Nat->Bool}:∀ {n i k:Nat},qm0 p n i=some k->i<=k/\k<i+n/\p k=true/\∀j,i<=j->j<k->p j=false
 |0,i,k,h=>by cases h
 |n+1,i,k,h=>by
  simp only[qm0]at h;split at h
  ·rename_i hp;injection h with h;subst h;exact⟨zg3 _,by omega,hp,fun j h1 h2=>by omega⟩
  ·rename_i hp;obtain⟨h1,h2,h3,h4⟩:=qho h;refine⟨by omega,by omega,h3,fun j h5 h6=>?_⟩;by_cases e:j=i
   ·subst e;simpa using hp
   ·exact h4 j (by omega) h6
theorem qot{p:Nat->Bool}:∀ {n i:Nat},qm0 p n i=none->∀j,i<=j->j<i+n->p j=false
 |0,i,h,j,h1,h2=>by omega
 |n+1,i,h,j,h1,h2=>by
  simp only[qm0]at h;split at h
  ·cases h
  ·rename_i hp;by_cases e:j=i
   ·subst e;simpa using hp
   ·exact qot h j (by omega) (by omega)
def Sp.index(l:List Int)(v:Int):Int:=qdz (qm0 (fun i=>decide (v=l.getD i 0)) l.length 0) (fun i=>(i:Int)) (-1)
def Sp.named(op:Int):Bool:=!decide (op=26)&&!decide (op=28)
end
end Go.Abs
namespace Go.Abs
open Go Go.Proofs
noncomputable section
def Sp.qcb(b:Block):List Int:=b.params++(b.insts.filter (fun x=>Sp.named x.op)).map (·.dest)
structure Marks(W:Nat)(d d':List Bool)(l:List Int):Prop where
 len:d.length=W->d'.length=W
 rng:d.length=W->∀v∈l,0<=v/\v<W
 old:d.length=W->∀v∈l,d.getD v.toNat false=false
 nd:d.length=W->l.Nodup
 mks:d.length=W->∀n,d'.getD n false=true↔d.getD n false=true\/(n:Int)∈l
theorem Marks.nil(W:Nat)(d:List Bool):Marks W d d []:=⟨fun h=>h,fun _ v h=>absurd h (by simp),fun _ v h=>absurd h (by simp),fun _=>List.nodup_nil,fun _ n=>by simp⟩
theorem Marks.one{W:Nat}{d:List Bool}{v:Int}(h1:0<=v/\v<W)(h2:d.getD v.toNat false=false):Marks W d (d.set v.toNat true) [v] where
 len h:=by simpa using h
 rng _ x hx:=by simp at hx;exact hx▸h1
 old _ x hx:=by simp at hx;exact hx▸h2
 nd _:=by simp
 mks h n:=by
  have e:(n:Int)∈[v]↔v.toNat=n:=by simp;omega
  rw[e];simp only[zg0,List.getElem?_set];by_cases hn:v.toNat=n
  ·subst hn;rw[if_pos rfl,if_pos (by omega)];simp
  ·rw[if_neg hn];simp[hn]
theorem Marks.app{W:Nat}{d d1 d2:List Bool}{l m:List Int}(h:Marks W d d1 l)(k:Marks W d1 d2 m):Marks W d d2 (l++m) where
 len e:=k.len (h.len e)
 rng e v hv:=by
  rcases zhj.1 hv with hv|hv
  ·exact h.rng e v hv
  ·exact k.rng (h.len e) v hv
 old e v hv:=by
  rcases zhj.1 hv with hv|hv
  ·exact h.old e v hv
  ·have:=k.old (h.len e) v hv;cases hd:d.getD v.toNat false with
   |false=>rfl
   |true=>rw[(h.mks e v.toNat).2 (.inl hd)]at this;cases this
 nd e:=by
  rw[zhq];refine⟨h.nd e,k.nd (h.len e),fun a ha b hb hab=>?_⟩;subst hab;have h1:=k.old (h.len e) a hb;have h2:=h.rng e a ha;rw[(h.mks e a.toNat).2 (.inr (by rw[show((a.toNat:Nat):Int)=a by omega];exact ha))]at h1
  cases h1
 mks e n:=by rw[k.mks (h.len e) n,h.mks e n,zhj,or_assoc]
theorem qol(f:Fn):∀(l:List Int) (s s':DK),qdg (Sp.qdf f) l s=some s'->Marks f.qab.length s.1 s'.1 l
 |[],s,s',h=>by injection h with h;subst h;exact .nil _ _
 |v::l,s,s',h=>by
  simp only[qdg]at h;cases hg:Sp.qdf f s v with
  |none=>rw[hg]at h;cases h
  |some s1=>
   rw[hg]at h;have ih:=qol f l s1 s' h;simp only[Sp.qdf]at hg;split at hg
   ·rename_i hc;injection hg with hg;subst hg;exact Marks.app (l:=[v]) (Marks.one (within_iff.1 hc.1) hc.2) ih
   ·cases hg
theorem qen{f:Fn}{s s':DK}{x:qau}(h:Sp.qcl f s x=some s'):Sp.named x.op=Sp.result x.op/\(Sp.named x.op=false->x.dest=-1):=by
 simp only[Sp.qcl]at h;split at h
 ·rename_i hc;obtain⟨h1,h2,h3,h4⟩:=hc;have e:Sp.named x.op=Sp.result x.op:=by
   have:0<=Sp.arity x.op:=by omega
   simp only[Sp.named,Sp.result,this,decide_true,zip]
  refine⟨e,fun hn=>?_⟩;rw[e]at hn;simp only[Sp.qf4,hn]at h3;simpa using h3
 ·cases h
theorem qom(f:Fn):∀(l:List qau) (s s':DK),qdg (Sp.qcl f) l s=some s'->Marks f.qab.length s.1 s'.1 ((l.filter (fun x=>Sp.named x.op)).map (·.dest))
 |[],s,s',h=>by injection h with h;subst h;exact .nil _ _
 |x::l,s,s',h=>by
  simp only[qdg]at h;cases hg:Sp.qcl f s x with
  |none=>rw[hg]at h;cases h
  |some s1=>
   rw[hg]at h;have ih:=qom f l s1 s' h;have hn:=(qen hg).1;simp only[Sp.qcl]at hg;split at hg
   ·rename_i hc;injection hg with hg;subst hg;cases hr:Sp.result x.op with
    |false=>
     rw[List.filter_cons_of_neg (by simp[hn,hr])];simpa[Sp.mark,hr]using ih
    |true=>
     rw[List.filter_cons_of_pos (by simp[hn,hr])];have h3:=hc.2.2.1;simp only[Sp.qf4,hr,if_true,zgz,zhn]at h3;refine Marks.app (l:=[x.dest]) (d1:=s.1.set x.dest.toNat true) (Marks.one (within_iff.1 h3.1) h3.2) ?_;simpa[Sp.mark,hr]using ih
   ·cases hg
def Block.zcv(b:Block):Prop:=∀x∈b.insts,Sp.named x.op=false->x.dest=-1
theorem qmd{f:Fn}{d d':List Bool}{b:Block}(h:Sp.qcp f d b=some d'):Marks f.qab.length d d' (Sp.qcb b)/\b.zcv:=by
 simp only[Sp.qcp]at h;split at h
 ·split at h
  ·rename_i s1 h1;split at h
   ·rename_i s2 h2;split at h
    ·injection h with h;subst h;refine⟨Marks.app (qol f _ _ _ h1) (qom f _ _ _ h2),fun x hx hn=>?_⟩;obtain⟨t1,t2,ht⟩:=qe3 _ _ _ h2 x hx;exact(qen ht).2 hn
    ·cases h
   ·cases h
  ·cases h
 ·cases h
theorem qon(f:Fn):∀(l:List Block) (d d':List Bool),qdg (Sp.qcp f) l d=some d'->Marks f.qab.length d d' (l.flatMap Sp.qcb)
 |[],d,d',h=>by injection h with h;subst h;exact .nil _ _
 |b::l,d,d',h=>by
  simp only[qdg]at h;cases hg:Sp.qcp f d b with
  |none=>rw[hg]at h;cases h
  |some d1=>
   rw[hg]at h;simp only[List.flatMap_cons];exact Marks.app (qmd hg).1 (qon f l d1 d' h)
theorem qjm{f:Fn}(h:Sp.valid f=true):(f.blocks.flatMap Sp.qcb).Nodup/\(∀v∈f.blocks.flatMap Sp.qcb,0<=v/\v<f.qab.length)/\∀b∈f.blocks,b.zcv:=by
 simp only[Sp.valid,zgz]at h;obtain⟨d,hd⟩:=Option.isSome_iff_exists.1 h.2;have m:=qon f _ _ _ hd;have e:(List.replicate f.qab.length false).length=f.qab.length:=zia;refine⟨m.nd e,m.rng e,fun b hb=>?_⟩;obtain⟨s1,s2,hg⟩:=qe3 _ _ _ hd b hb;exact(qmd hg).2
theorem q44{p:Nat->Bool}{n k:Nat}(hk:k<n)(hp:p k=true)(h:∀j,j<k->p j=false):qm0 p n 0=some k:=by
 cases hf:qm0 p n 0 with
 |none=>rw[qot hf k (by omega) (by omega)]at hp;cases hp
 |some i=>
  obtain⟨h1,h2,h3,h4⟩:=qho hf;by_cases e:i<k
  ·rw[h i e]at h3;cases h3
  ·by_cases e2:i=k
   ·rw[e2]
   ·rw[h4 k (by omega) (by omega)]at hp;cases hp
theorem q43{p:Nat->Bool}{n:Nat}(h:∀j,j<n->p j=false):qm0 p n 0=none:=by
 cases hf:qm0 p n 0 with
 |none=>rfl
 |some i=>
  obtain⟨h1,h2,h3,h4⟩:=qho hf;rw[h i (by omega)]at h3;cases h3
theorem qfe{l:List Int}(hn:l.Nodup){i:Nat}(hi:i<l.length):Sp.index l (l.getD i 0)=i:=by
 unfold Sp.index;rw[q44 hi (by simp)]
 ·rfl
 ·intro j hj;refine decide_eq_false fun e=>?_;rw[zg0,zg0,zhb hi,zhb (show j<l.length by omega)]at e;exact(List.pairwise_iff_getElem.1 hn) j i (by omega) hi hj e.symm
theorem qlc{l:List Int}{v:Int}(h:v∉l):Sp.index l v=-1:=by
 unfold Sp.index;rw[q43]
 ·rfl
 ·intro j hj;refine decide_eq_false fun e=>h ?_;rw[e,zg0,zhb hj];exact zh4 hj
section
variable {f:Fn} (hv:Sp.valid f=true)
include hv
end
section
variable {f:Fn} (hf:f.ok) (hv:Sp.valid f=true)
include hv
include hf
end
end
end Go.Abs
namespace Go.Abs
open Go Go.Proofs
noncomputable section
def Good(f:Fn)(s:List Bool×List Int):Prop:=s.1=qb8 f s.2/\(∀v∈s.2,0<=v/\v<f.blocks.length)/\s.2.Nodup
theorem qn4(f:Fn):∀(n:Nat) (b:Int) (s:List Bool×List Int),Good f s->Good f (Sp.visit f n b s)
 |0,b,s,h=>h
 |n+1,b,s,h=>by
  unfold Sp.visit;split
  ·exact h
  ·rename_i hb;split
   ·exact h
   ·rename_i hs;refine qeb (Good f) _ (fun r e hr=>qn4 f n e.block r hr) _ _ ?_;obtain⟨h1,h2,h3⟩:=h;have hl:s.1.length=f.blocks.length:=by rw[h1,qg0]
    have hs':s.2.any (fun y=>decide (y=b))=false:=by
     rw[<- qis f s.2 (by omega) (by omega),<- h1];exact Bool.eq_false_iff.2 hs
    refine⟨?_,fun v hv=>?_,?_⟩
    ·show s.1.set b.toNat true=_;rw[h1];exact qft f s.2 (by omega) (by omega)
    ·rcases zhj.1 hv with e|e
     ·exact h2 v e
     ·rw[zh7]at e;subst e;exact⟨by omega,by omega⟩
    ·show(s.2++[b]).Nodup;refine zhq.2 ⟨h3,by simp,fun x hx y hy e=>?_⟩;rw[zh7]at hy;subst hy;subst e;have:s.2.any (fun y=>decide (y=x))=true:=List.any_eq_true.2 ⟨x,hx,by simp⟩;rw[hs']at this;cases this
theorem qbh(f:Fn):(∀v∈Sp.order f,0<=v/\v<f.blocks.length)/\(Sp.order f).Nodup:=by
 have:=qn4 f (f.blocks.length+1) 0 (List.replicate f.blocks.length false,[]) ⟨(qfu f).symm,(fun v hv=>by cases hv),List.nodup_nil⟩;exact⟨this.2.1,this.2.2⟩
theorem qdq{l:List Int}(hn:l.Nodup){v:Int}(h:v∈l):∃i,i<l.length/\l.getD i 0=v/\Sp.index l v=i:=by
 obtain⟨i,hi,e⟩:=zis h;have e2:l.getD i 0=v:=by rw[zg0,zhb hi];exact e
 exact⟨i,hi,e2,by rw[<- e2];exact qfe hn hi⟩
theorem qea{P L:List Int}(hn:(P++L).Nodup){v:Int}(h:v∈P):Sp.index (P++L) v=Sp.index P v:=by
 obtain⟨i,hi,e1,e2⟩:=qdq (zhq.1 hn).1 h;rw[e2];have e3:(P++L).getD i 0=v:=by rw[<- e1];simp[zg0,ziz hi]
 rw[<- e3];exact qfe hn (by simp;omega)
theorem qms{P:List Int}{v:Int}(hn:(P++[v]).Nodup):Sp.index (P++[v]) v=(P.length:Int):=by
 have e3:(P++[v]).getD P.length 0=v:=by simp
 have:=qfe hn (i:=P.length) (by simp);rw[e3]at this;exact this
def qgt(W P:List Int):RS:=(fun k=>match k with
 |.i v=>if v∈P then some (Sp.index P v)else none
 | _=>none,P.map fun v=>W.getD v.toNat 0)
theorem qy4(W P:List Int)(v:Int)(hn:(P++[v]).Nodup):qgt W (P++[v])=(qnn (qgt W P).1 (.i v) (P.length:Int),(qgt W P).2++[W.getD v.toNat 0]):=by
 have hv:v∉P:=fun h=>(zhq.1 hn).2.2 v h v (zh7.2 rfl) rfl;unfold qgt;refine Prod.ext (funext fun k=>?_) (by simp);cases k with
 |i u=>
  show(if u∈P++[v]then some (Sp.index (P++[v]) u)else none)=(if(qce.i u)=.i v then some (P.length:Int)else(if u∈P then some (Sp.index P u)else none))
  by_cases e:u=v
  ·subst e;rw[if_pos (by simp),if_pos rfl,qms hn]
  ·rw[if_neg (show ¬ (qce.i u)=.i v from fun h=>e (by injection h))];by_cases h:u∈P
   ·rw[if_pos (zho _ h),if_pos h,qea hn h]
   ·rw[if_neg h,if_neg (fun hc=>by
     rcases zhj.1 hc with h' | h'
     ·exact h h'
     ·exact e (zh7.1 h'))]
 |s b=>rfl
theorem qru(W P:List Int){v:Int}(h0:0<=v)(h1:v<W.length)(h:v∈P):Sp.num W v (qgt W P)=(Sp.index P v,qgt W P):=by
 unfold Sp.num;rw[if_neg (by omega)];have:(qgt W P).1 (.i v)=some (Sp.index P v):=if_pos h;rw[this]
theorem q0b(W P:List Int){v:Int}(h0:0<=v)(h1:v<W.length)(hn:(P++[v]).Nodup):Sp.num W v (qgt W P)=(Sp.index (P++[v]) v,qgt W (P++[v])):=by
 have hv:v∉P:=fun h=>(zhq.1 hn).2.2 v h v (zh7.2 rfl) rfl;unfold Sp.num;rw[if_neg (by omega)];have:(qgt W P).1 (.i v)=none:=if_neg hv;rw[this,qy4 W P v hn,qms hn];simp[qgt]
def InR(W P:List Int):Prop:=∀v∈P,0<=v/\v<(W.length:Int)
theorem qhj(W P:List Int)(hr:InR W P):∀l:List Int,(∀v∈l,v∈P)->Sp.qgu W l (qgt W P)=(l.map (Sp.index P),qgt W P)
 |[],_=>rfl
 |v::l,h=>by
  have hv:=h v (zg5 ..);have e:=qru W P (hr v hv).1 (hr v hv).2 hv;simp only[Sp.qgu,e,qhj W P hr l (fun u hu=>h u (zg8 _ hu)),zhg]
theorem qva(W:List Int):∀(l P:List Int),(P++l).Nodup->InR W l->Sp.qgu W l (qgt W P)=(l.map (Sp.index (P++l)),qgt W (P++l))
 |[],P,_,_=>by simp[Sp.qgu]
 |v::l,P,hn,hr=>by
  have hn2:(P++[v]++l).Nodup:=by simpa using hn
  have hn1:(P++[v]).Nodup:=(zhq.1 hn2).1;have e:=q0b W P (hr v (zg5 ..)).1 (hr v (zg5 ..)).2 hn1;have ih:=qva W l (P++[v]) hn2 (fun u hu=>hr u (zg8 _ hu));have e2:P++[v]++l=P++v::l:=by simp
  rw[e2]at ih hn2;have e3:Sp.index (P++[v]) v=Sp.index (P++v::l) v:=by
   rw[<- e2];exact(qea (by rw[e2];exact hn2) (by simp)).symm
  simp only[Sp.qgu,e,ih,zhg,e3]
def qq2:List qau->List Int->Prop
 |[],_=>True
 |x::l,ks=>(∀v∈x.args,v∈ks)/\qq2 l (if Sp.named x.op=true then ks++[x.dest]else ks)
def dl(l:List qau):List Int:=(l.filter fun x=>Sp.named x.op).map (·.dest)
def reI(r:Int->Int)(x:qau):qau:=⟨x.op,if Sp.named x.op=true then r x.dest else x.dest,x.args.map r,x.num,x.mem⟩
theorem qe4{x:qau}{l:List qau}(h:Sp.named x.op=true):dl (x::l)=x.dest::dl l:=by simp[dl,h]
theorem qe5{x:qau}{l:List qau}(h:Sp.named x.op=false):dl (x::l)=dl l:=by simp[dl,h]
theorem qmo(W:List Int):∀(l:List qau) (P ks:List Int),qq2 l ks->(∀v∈ks,v∈P)->(P++dl l).Nodup->InR W (P++dl l)->(∀x∈l,Sp.named x.op=false->x.dest=-1) ->
  qgn (Sp.qko W) l (qgt W P)=(l.map (reI (Sp.index (P++dl l))),qgt W (P++dl l))
 |[],P,ks,_,_,_,_,_=>by simp[qgn,dl]
 |x::l,P,ks,hu,hk,hn,hr,hd=>by
  obtain⟨u1,u2⟩:=hu;have hrP:InR W P:=fun v hv=>hr v (zho _ hv);have ea:=qhj W P hrP x.args (fun v hv=>hk v (u1 v hv));cases hx:Sp.named x.op with
  |true=>
   rw[qe4 hx]at hn hr ⊢;rw[if_pos hx]at u2;have e2:P++[x.dest]++dl l=P++x.dest::dl l:=by simp
   have hn2:(P++[x.dest]++dl l).Nodup:=by rw[e2];exact hn
   have hxr:=hr x.dest (by simp);have e:=q0b W P hxr.1 hxr.2 (zhq.1 hn2).1;have ih:=qmo W l (P++[x.dest]) (ks++[x.dest]) u2 (fun v hv=>by
    rcases zhj.1 hv with h|h
    ·exact zho _ (hk v h)
    ·exact zh1 _ h) hn2 (by rw[e2];exact hr) (fun y hy=>hd y (zg8 _ hy))
   rw[e2]at ih;have e3:Sp.index (P++[x.dest]) x.dest=Sp.index (P++x.dest::dl l) x.dest:=by
    rw[<- e2];exact(qea hn2 (by simp)).symm
   have e4:x.args.map (Sp.index P)=x.args.map (Sp.index (P++x.dest::dl l)):=zhx fun v hv=>(qea hn (hk v (u1 v hv))).symm;simp only[qgn,Sp.qko,ea,e,ih,zhg,reI,hx,if_true,e3,e4]
  |false=>
   rw[qe5 hx]at hn hr ⊢;rw[if_neg (by simp[hx])]at u2;have hdx:=hd x (zg5 ..) hx;have e:=qtl W x.dest (qgt W P) (by omega);have ih:=qmo W l P ks u2 hk hn hr (fun y hy=>hd y (zg8 _ hy));have e4:x.args.map (Sp.index P)=x.args.map (Sp.index (P++dl l)):=zhx fun v hv=>(qea hn (hk v (u1 v hv))).symm;simp only[qgn,Sp.qko,ea,e,ih,zhg,reI,hx,zhs,if_false,e4]
end
end Go.Abs
namespace Go.Abs
open Go Go.Proofs
noncomputable section
theorem qlk:∀(l:List qau) (ks:List Int),qq2 l ks->∀x∈l,∀v∈x.args,v∈ks++dl l
 |[],_,_,x,hx,_,_=>by cases hx
 |y::l,ks,h,x,hx,v,hv=>by
  obtain⟨h1,h2⟩:=h;rcases zhr.1 hx with e|e
  ·subst e;exact zho _ (h1 v hv)
  ·have:=qlk l _ h2 x e v hv;cases hn:Sp.named y.op with
   |true=>
    rw[qe4 hn];rw[if_pos hn]at this;simpa using this
   |false=>
    rw[qe5 hn];rw[if_neg (by simp[hn])]at this;exact this
structure q5q(b:Block):Prop where
 is:qq2 b.insts b.params
 cd:b.term.cond=-1\/b.term.cond∈Sp.qcb b
 rs:∀v∈b.term.qa4,v∈Sp.qcb b
 es:∀e∈b.term.to,∀v∈e.args,v∈Sp.qcb b
 ds:∀x∈b.insts,Sp.named x.op=false->x.dest=-1
def reE(r:Int->Int)(e:Edge):Edge:=⟨e.block,e.args.map r⟩
def reB(r:Int->Int)(b:Block):Block:=⟨b.params.map r,b.insts.map (reI r),⟨b.term.kind,if b.term.cond=-1 then -1 else r b.term.cond,b.term.to.map (reE r),b.term.qa4.map r⟩,b.qar,b.qba,b.line⟩
theorem qgi(b:Block):Sp.qcb b=b.params++dl b.insts:=rfl
theorem q1o{l:List qau}{x:qau}(h:x∈l)(hn:Sp.named x.op=true):x.dest∈dl l:=zhk.2 ⟨x,zig.2 ⟨h,hn⟩,rfl⟩
theorem ql3{b:Block}(hb:q5q b){r r':Int->Int}(h:∀v∈Sp.qcb b,r v=r' v):reB r b=reB r' b:=by
 have e1:b.params.map r=b.params.map r':=zhx fun v hv=>h v (zho _ hv);have e2:b.insts.map (reI r)=b.insts.map (reI r'):=zhx fun x hx=>by
  have ea:x.args.map r=x.args.map r':=zhx fun v hv=>h v (qlk _ _ hb.is x hx v hv);unfold reI;rw[ea];split
  ·rename_i hn;rw[h x.dest (zh1 _ (q1o hx hn))]
  ·rfl
 have e3:b.term.to.map (reE r)=b.term.to.map (reE r'):=zhx fun e he=>by
  unfold reE;rw[zhx fun v hv=>h v (hb.es e he v hv)]
 have e4:b.term.qa4.map r=b.term.qa4.map r':=zhx fun v hv=>h v (hb.rs v hv);have e5:(if b.term.cond=-1 then(-1:Int)else r b.term.cond)=(if b.term.cond=-1 then(-1:Int)else r' b.term.cond):=by
  split
  ·rfl
  ·rename_i hc;exact h _ (hb.cd.resolve_left hc)
 unfold reB;rw[e1,e2,e3,e4,e5]
theorem qsf(W P:List Int)(hr:InR W P):∀l:List Edge,(∀e∈l,∀v∈e.args,v∈P)->qgn (Sp.qkp W) l (qgt W P)=(l.map (reE (Sp.index P)),qgt W P)
 |[],_=>rfl
 |e::l,h=>by
  have e1:=qhj W P hr e.args (h e (zg5 ..));simp only[qgn,Sp.qkp,e1,qsf W P hr l (fun u hu=>h u (zg8 _ hu)),zhg,reE]
theorem q39(W P:List Int)(b:Block)(hb:q5q b)(hn:(P++Sp.qcb b).Nodup)(hr:InR W (P++Sp.qcb b)):Sp.qzx W b (qgt W P)=(reB (Sp.index (P++Sp.qcb b)) b,qgt W (P++Sp.qcb b)):=by
 have ea:P++Sp.qcb b=P++b.params++dl b.insts:=by rw[qgi];simp
 have hn1:(P++b.params++dl b.insts).Nodup:=by rw[<- ea];exact hn
 have hr1:InR W (P++b.params++dl b.insts):=by rw[<- ea];exact hr
 have k1:Sp.rPs W b (qgt W P)=(b.params.map (Sp.index (P++b.params)),qgt W (P++b.params)):=qva W b.params P (zhq.1 hn1).1 (fun v hv=>hr1 v (zho _ (zh1 _ hv)));have k2:Sp.rIs W b (qgt W P)=(b.insts.map (reI (Sp.index (P++Sp.qcb b))),qgt W (P++Sp.qcb b)):=by
  unfold Sp.rIs;rw[k1,ea];exact qmo W b.insts (P++b.params) b.params hb.is (fun v hv=>zh1 _ hv) hn1 hr1 hb.ds
 have k3:Sp.rCd W b (qgt W P)=(if b.term.cond=-1 then -1 else Sp.index (P++Sp.qcb b) b.term.cond,qgt W (P++Sp.qcb b)):=by
  unfold Sp.rCd;rw[k2];by_cases hc:b.term.cond=-1
  ·rw[if_pos hc,hc];exact qtl W (-1) _ (by omega)
  ·rw[if_neg hc];have hm:b.term.cond∈P++Sp.qcb b:=zh1 _ (hb.cd.resolve_left hc);exact qru W _ (hr _ hm).1 (hr _ hm).2 hm
 have k4:Sp.rRs W b (qgt W P)=(b.term.qa4.map (Sp.index (P++Sp.qcb b)),qgt W (P++Sp.qcb b)):=by
  unfold Sp.rRs;rw[k3];exact qhj W _ hr _ fun v hv=>zh1 _ (hb.rs v hv)
 have k5:Sp.rTo W b (qgt W P)=(b.term.to.map (reE (Sp.index (P++Sp.qcb b))),qgt W (P++Sp.qcb b)):=by
  unfold Sp.rTo;rw[k4];exact qsf W _ hr _ fun e he v hv=>zh1 _ (hb.es e he v hv)
 have e1:b.params.map (Sp.index (P++b.params))=b.params.map (Sp.index (P++Sp.qcb b)):=zhx fun v hv=>by
  rw[ea];exact(qea hn1 (zh1 _ hv)).symm
 unfold Sp.qzx reB;rw[k1,k2,k3,k4,k5,e1]
def qa1(f:Fn)(l:List Int):List Int:=l.flatMap fun b=>Sp.qcb (f.blocks.getD b.toNat Block.z)
theorem qrs(f:Fn)(hu:∀i,i<f.blocks.length->q5q (f.blocks.getD i Block.z)):∀(l P:List Int),(∀b∈l,0<=b/\b<f.blocks.length)->(P++qa1 f l).Nodup->InR f.qab (P++qa1 f l) ->
  qgn (Sp.rAt f) l (qgt f.qab P)=(l.map (fun b=>reB (Sp.index (P++qa1 f l)) (f.blocks.getD b.toNat Block.z)),qgt f.qab (P++qa1 f l))
 |[],P,_,_,_=>by simp[qgn,qa1]
 |b::l,P,hb,hn,hr=>by
  have h0:=hb b (zg5 ..);have hbu:=hu b.toNat (by omega);have e2:P++qa1 f (b::l)=P++Sp.qcb (f.blocks.getD b.toNat Block.z)++qa1 f l:=by simp[qa1]
  rw[e2]at hn hr ⊢;have k:=q39 f.qab P _ hbu (zhq.1 hn).1 (fun v hv=>hr v (zho _ hv));have ih:=qrs f hu l (P++Sp.qcb (f.blocks.getD b.toNat Block.z)) (fun c hc=>hb c (zg8 _ hc)) hn hr;have e3:=ql3 hbu (r:=Sp.index (P++Sp.qcb (f.blocks.getD b.toNat Block.z))) (r':=Sp.index (P++Sp.qcb (f.blocks.getD b.toNat Block.z)++qa1 f l)) fun v hv=>(qea hn (zh1 _ hv)).symm;simp only[qgn,Sp.rAt,k,zhg,e3];rw[show(Sp.rAt f)=fun b s=>Sp.qzx f.qab (f.blocks.getD b.toNat Block.z) s from rfl]at ih;rw[show(qgn (Sp.rAt f) l)=qgn (fun b s=>Sp.qzx f.qab (f.blocks.getD b.toNat Block.z) s) l from rfl,ih]
end
end Go.Abs
namespace Go.Abs
open Go Go.Proofs
noncomputable section
def qh3(W P:List Int):VW:=((List.range W.length).map fun(v:Nat)=>Sp.index P (v:Int),P.map fun v=>W.getD v.toNat 0)
theorem q2t(W:List Int):qh3 W []=(List.replicate W.length (-1),[]):=by
 unfold qh3;refine Prod.ext (zih (by simp) fun i h1 h2=>?_) rfl;simp only[ziv,zin,List.getElem_replicate];exact qlc (by simp)
theorem q2u(W P:List Int){v:Int}(h0:0<=v)(h1:v<W.length):q27 (qh3 W P).1 v=Sp.index P v:=by
 have h2:v.toNat<(List.range W.length).length:=by simp;omega
 have e:((v.toNat:Nat):Int)=v:=ziu h0;unfold q27 qh3;simp only[zg0,zh5,zhb h2,zin,zii,zhi,e]
theorem qxa{P:List Int}{v u:Int}(hn:(P++[v]).Nodup)(h:u≠v):Sp.index (P++[v]) u=Sp.index P u:=by
 by_cases hu:u∈P
 ·exact qea hn hu
 ·rw[qlc hu,qlc (fun hc=>by
   rcases zhj.1 hc with h' | h'
   ·exact hu h'
   ·exact h (zh7.1 h'))]
theorem qqy(W P:List Int){v:Int}(h0:0<=v)(h1:v<W.length)(hn:(P++[v]).Nodup):Sp.qqv W (qh3 W P) v=qh3 W (P++[v]):=by
 unfold Sp.qqv;refine Prod.ext (zih (by simp[qh3]) fun i h2 h3=>?_) (by simp[qh3]);simp only[qh3,List.getElem_set,ziv,zin,zha];by_cases e:v.toNat=i
 ·rw[if_pos e,show((i:Nat):Int)=v by omega,qms hn]
 ·rw[if_neg e,qxa hn (by omega)]
theorem qsa(W:List Int):∀(l P:List Int),(P++l).Nodup->InR W l->l.foldl (Sp.qqv W) (qh3 W P)=qh3 W (P++l)
 |[],P,_,_=>by simp
 |v::l,P,hn,hr=>by
  have e2:P++[v]++l=P++v::l:=by simp
  have hv:=hr v (zg5 ..);rw[zh8,qqy W P hv.1 hv.2 (zhq.1 (by rw[e2];exact hn)).1,qsa W l (P++[v]) (by rw[e2];exact hn) (fun u hu=>hr u (zg8 _ hu)),e2]
theorem qmw(W:List Int):∀(l:List qau) (P:List Int),(P++dl l).Nodup->InR W (dl l)->(∀x∈l,Sp.named x.op=false->x.dest=-1)->l.foldl (Sp.qqj W) (qh3 W P)=qh3 W (P++dl l)
 |[],P,_,_,_=>by simp[dl]
 |x::l,P,hn,hr,hd=>by
  rw[zh8];cases hx:Sp.named x.op with
  |true=>
   rw[qe4 hx]at hn hr ⊢;have e2:P++[x.dest]++dl l=P++x.dest::dl l:=by simp
   have hv:=hr x.dest (zg5 ..);have e:Sp.qqj W (qh3 W P) x=qh3 W (P++[x.dest]):=by
    unfold Sp.qqj;rw[if_pos hv.1];exact qqy W P hv.1 hv.2 (zhq.1 (by rw[e2];exact hn)).1
   rw[e,qmw W l (P++[x.dest]) (by rw[e2];exact hn) (fun u hu=>hr u (zg8 _ hu)) (fun y hy=>hd y (zg8 _ hy)),e2]
  |false=>
   rw[qe5 hx]at hn hr ⊢;have hdx:=hd x (zg5 ..) hx;have e:Sp.qqj W (qh3 W P) x=qh3 W P:=by
    unfold Sp.qqj;rw[if_neg (by omega)]
   rw[e,qmw W l P hn hr (fun y hy=>hd y (zg8 _ hy))]
theorem q49(W P:List Int)(b:Block)(hb:q5q b)(hn:(P++Sp.qcb b).Nodup)(hr:InR W (Sp.qcb b)):Sp.q84 W b (qh3 W P)=qh3 W (P++Sp.qcb b):=by
 have ea:P++Sp.qcb b=P++b.params++dl b.insts:=by rw[qgi];simp
 rw[ea]at hn ⊢;unfold Sp.q84;rw[qsa W b.params P (zhq.1 hn).1 (fun v hv=>hr v (zho _ hv))];exact qmw W b.insts _ hn (fun v hv=>hr v (zh1 _ hv)) hb.ds
theorem qu3(f:Fn)(hu:∀i,i<f.blocks.length->q5q (f.blocks.getD i Block.z)):∀(l P:List Int),(∀b∈l,0<=b/\b<f.blocks.length)->(P++qa1 f l).Nodup->InR f.qab (qa1 f l)->l.foldl (Sp.q5a f) (qh3 f.qab P)=qh3 f.qab (P++qa1 f l)
 |[],P,_,_,_=>by simp[qa1]
 |b::l,P,hb,hn,hr=>by
  have h0:=hb b (zg5 ..);have e1:qa1 f (b::l)=Sp.qcb (f.blocks.getD b.toNat Block.z)++qa1 f l:=by simp[qa1]
  rw[e1]at hn hr ⊢;rw[<- zib]at hn ⊢;rw[zh8];have k:=q49 f.qab P _ (hu b.toNat (by omega)) (zhq.1 hn).1 (fun v hv=>hr v (zho _ hv));rw[show Sp.q5a f (qh3 f.qab P) b=Sp.q84 f.qab (f.blocks.getD b.toNat Block.z) (qh3 f.qab P)from rfl,k];exact qu3 f hu l _ (fun c hc=>hb c (zg8 _ hc)) hn (fun v hv=>hr v (zh1 _ hv))
end
end Go.Abs
namespace Go.Abs
open Go Go.Proofs
noncomputable section
theorem qi3{b c:Int}{l:List Int}(hn:(b::l).Nodup)(hc:c∈l):Sp.index (b::l) c=Sp.index l c+1:=by
 obtain⟨k,h1,h2,h3⟩:=qdq (zhu.1 hn).2 hc;have e:(b::l).getD (k+1) 0=c:=by rw[<- h2];simp
 have:=qfe hn (i:=k+1) (by simp;omega)
 rw[e]at this;rw[this,h3];omega
theorem qeo{b:Int}{l:List Int}(hn:(b::l).Nodup):Sp.index (b::l) b=0:=by
 have:=qfe hn (i:=0) (by simp);simpa using this
theorem q0i:∀(l:List Int) (i:Nat) (m:qce->Option Int) (c:Int),l.Nodup->q4n l i m (.i c)=if c∈l then some ((i:Int)+Sp.index l c)else m (.i c)
 |[],i,m,c,_=>by simp[q4n]
 |b::l,i,m,c,hn=>by
  have hn2:=(zhu.1 hn).2;rw[q4n,q0i l (i+1) _ c hn2];by_cases hc:c∈l
  ·rw[if_pos hc,if_pos (zg8 _ hc),qi3 hn hc];congr 1;omega
  ·rw[if_neg hc];by_cases e:c=b
   ·subst e;rw[if_pos (zg5 ..),qeo hn];simp[qnn]
   ·rw[if_neg (fun h=>by
     rcases zhr.1 h with h|h
     ·exact e h
     ·exact hc h)]
    unfold qnn;rw[if_neg (fun h=>e (by injection h))]
theorem q74{B:List Int}{b c x:Int}(hb:0<=b)(hb2:b<B.length)(hc:0<=c):q27 (B.set b.toNat x) c=if c=b then x else q27 B c:=by
 unfold q27;simp only[zg0,List.getElem?_set];by_cases e:c=b
 ·subst e;rw[if_pos rfl,if_pos rfl,if_pos (by omega)];rfl
 ·rw[if_neg (by omega),if_neg e]
theorem q2c:∀(l:List Int) (i:Nat) (B:List Int) (c:Int),l.Nodup->(∀b∈l,0<=b/\b<B.length)->0<=c->q27 (q2q l i B) c=if c∈l then(i:Int)+Sp.index l c else q27 B c
 |[],i,B,c,_,_,_=>by simp[q2q]
 |b::l,i,B,c,hn,hr,hc0=>by
  have hn2:=(zhu.1 hn).2;obtain⟨b0,b1⟩:=hr b (zg5 ..);rw[q2q,q2c l (i+1) _ c hn2 (fun v hv=>by
   have:=hr v (zg8 _ hv);simpa using this) hc0]
  by_cases hc:c∈l
  ·rw[if_pos hc,if_pos (zg8 _ hc),qi3 hn hc];omega
  ·rw[if_neg hc,q74 b0 b1 hc0];by_cases e:c=b
   ·subst e;rw[if_pos rfl,if_pos (zg5 ..),qeo hn];omega
   ·rw[if_neg e,if_neg (fun h=>by
     rcases zhr.1 h with h|h
     ·exact e h
     ·exact hc h)]
theorem qd7(f:Fn){b:Nat}(hb:(b:Int)∈Sp.order f){e:Edge}(he:e∈(f.blocks.getD b Block.z).term.to)(h0:0<=e.block)(h1:e.block<f.blocks.length):e.block∈Sp.order f:=by
 have v:=(qqz f (f.blocks.length+1) 0 (List.replicate f.blocks.length false,[]) (by rw[qep];omega)).1
 have ho:=v.out (fun x=>⟨fun h=>absurd h quw,fun h=>by cases h⟩);obtain⟨k,hk⟩:=Int.eq_ofNat_of_zero_le h0;have hx:seen (Sp.visit f (f.blocks.length+1) 0 (List.replicate f.blocks.length false,[])).1 b:=(ho b).2 hb;have:=v.closed b hx quw k (by simp only[zia];omega) (qr2.2 ⟨e,he,hk⟩)
 rw[hk];exact(ho k).1 this
structure VOk(f:Fn):Prop where
 use:∀i,i<f.blocks.length->q5q (f.blocks.getD i Block.z)
 es:∀i,i<f.blocks.length->∀e∈(f.blocks.getD i Block.z).term.to,0<=e.block/\e.block<f.blocks.length
 nd:(qa1 f (Sp.order f)).Nodup
 rg:InR f.qab (qa1 f (Sp.order f))
def Sp.ren(f:Fn):Int->Int:=Sp.index (qa1 f (Sp.order f))
def Sp.reG(f:Fn)(b:Block):Block:=⟨b.params,b.insts,⟨b.term.kind,b.term.cond,b.term.to.map (fun e=>⟨Sp.index (Sp.order f) e.block,e.args⟩),b.term.qa4⟩,b.qar,b.qba,b.line⟩
def Sp.canon(f:Fn):Fn:=⟨f.name,(qa1 f (Sp.order f)).map (fun v=>f.qab.getD v.toNat 0),f.qao,f.streams,f.qa4,(Sp.order f).map fun b=>Sp.reG f (reB (Sp.ren f) (f.blocks.getD b.toNat Block.z))⟩
theorem ql2(f:Fn)(h:VOk f):Sp.qkn f=Sp.canon f:=by
 have ho:=qbh f;have k:=qrs f h.use (Sp.order f) [] ho.1 (by simpa using h.nd) (by simpa using h.rg);have e0:qgt f.qab []=(fun _=>none,[]):=by
  unfold qgt;refine Prod.ext (funext fun k=>?_) rfl;cases k<;>simp
 rw[e0]at k;simp only[zhv]at k;unfold Sp.qkn Sp.canon;rw[show Sp.q6i f=_ from k];simp only[List.map_map];congr 1;refine zhx fun b hb=>?_;have hr:=ho.1 b hb;show Sp.q90 _ (reB _ _)=Sp.reG f (reB _ _);unfold Sp.q90 Sp.reG;congr 2;refine zhx fun e he=>?_;unfold reB at he;obtain⟨e',he',rfl⟩:=zhk.1 he;have hb2:=h.es b.toNat (by omega) e' he';have hm:e'.block∈Sp.order f:=qd7 f (b:=b.toNat) (by rw[ziu hr.1];exact hb) he' hb2.1 hb2.2
 unfold Sp.rGo reE;simp only;rw[q0i _ _ _ _ ho.2,if_pos hm];simp
theorem qrg(f:Fn)(h:VOk f):Sp.qkf f=Sp.canon f:=by
 have ho:=qbh f;have k:=qu3 f h.use (Sp.order f) [] ho.1 (by simpa using h.nd) (by simpa using h.rg);rw[q2t]at k;simp only[zhv]at k;unfold Sp.qkf Sp.canon;rw[show Sp.q71 f=_ from k];congr 1;refine zhx fun b hb=>?_;have hr:=ho.1 b hb;have hu:=h.use b.toNat (by omega);have hmem:∀v∈Sp.qcb (f.blocks.getD b.toNat Block.z),v∈qa1 f (Sp.order f):=fun v hv=>zir.2 ⟨b,hb,hv⟩;have hq:∀v∈Sp.qcb (f.blocks.getD b.toNat Block.z),q27 (qh3 f.qab (qa1 f (Sp.order f))).1 v=Sp.ren f v:=fun v hv=>by
  have:=h.rg v (hmem v hv);exact q2u _ _ this.1 this.2
 have e:=ql3 hu (r:=q27 (qh3 f.qab (qa1 f (Sp.order f))).1) (r':=Sp.ren f) hq;rw[<- e];generalize hB:f.blocks.getD b.toNat Block.z=B at hu hq hmem ⊢;have e1:B.insts.map (qiz (qh3 f.qab (qa1 f (Sp.order f))).1)=B.insts.map (reI (q27 (qh3 f.qab (qa1 f (Sp.order f))).1)):=zhx fun x hx=>by
  unfold qiz reI;cases hn:Sp.named x.op with
  |true=>
   have:=h.rg x.dest (hmem _ (zh1 _ (q1o hx hn)));rw[if_pos this.1,if_pos rfl]
  |false=>
   have:=hu.ds x hx hn;rw[if_neg (by omega),if_neg (by simp)]
 have e2:(if 0<=B.term.cond then q27 (qh3 f.qab (qa1 f (Sp.order f))).1 B.term.cond else -1)=(if B.term.cond=-1 then(-1:Int)else q27 (qh3 f.qab (qa1 f (Sp.order f))).1 B.term.cond):=by
  rcases hu.cd with hc|hc
  ·rw[if_neg (by omega),if_pos hc]
  ·have:=h.rg _ (hmem _ hc);rw[if_pos this.1,if_neg (by omega)]
 have e3:B.term.to.map (qnw (qh3 f.qab (qa1 f (Sp.order f))).1 (Sp.rbk f))=(B.term.to.map (reE (q27 (qh3 f.qab (qa1 f (Sp.order f))).1))).map (fun e=>⟨Sp.index (Sp.order f) e.block,e.args⟩):=by
  rw[List.map_map];refine zhx fun e he=>?_;have hb2:=h.es b.toNat (by omega) e (by rw[hB];exact he)
  have hm:e.block∈Sp.order f:=qd7 f (b:=b.toNat) (by rw[ziu hr.1];exact hb) (by rw[hB];exact he) hb2.1 hb2.2
  show qnw _ _ e=_;unfold qnw Sp.rbk;rw[q2c _ _ _ _ ho.2 (by simpa using ho.1) hb2.1,if_pos hm];simp[reE]
 unfold zb5 Sp.reG reB;rw[e1,e2,e3]
end
end Go.Abs
namespace Go.Abs
open Go Go.Proofs
noncomputable section
theorem getD_set_true{l:List Bool}{i j:Nat}(h:(l.set i true).getD j false=true):j=i\/l.getD j false=true:=by
 by_cases e:j=i
 ·exact .inl e
 ·right
  rw[zg0,List.getElem?_set,if_neg (fun h=>e h.symm),<- zg0]at h;exact h
def Kn(k:List Bool)(ks:List Int):Prop:=∀v:Int,0<=v->k.getD v.toNat false=true->v∈ks
theorem Kn.set{k:List Bool}{ks:List Int}(h:Kn k ks){v:Int}(h0:0<=v):Kn (k.set v.toNat true) (ks++[v]):=fun u hu hk=>by
 rcases getD_set_true hk with e|e
 ·have:u=v:=by omega
  subst this;simp
 ·exact zho _ (h u hu e)
theorem qz5(f:Fn):∀(l:List Int) (s s':DK) (ks:List Int),Kn s.2 ks->qdg (Sp.qdf f) l s=some s'->Kn s'.2 (ks++l)
 |[],s,s',ks,h,e=>by
  injection e with e;subst e;simpa using h
 |v::l,s,s',ks,h,e=>by
  simp only[qdg]at e;cases hg:Sp.qdf f s v with
  |none=>rw[hg]at e;cases e
  |some s1=>
   rw[hg]at e;unfold Sp.qdf at hg;split at hg
   ·rename_i hc;injection hg with hg;subst hg;have:=qz5 f l _ s' (ks++[v]) (h.set (within_iff.1 hc.1).1) e;simpa using this
   ·cases hg
theorem qpe{f:Fn}{l:List Int}{k:List Bool}{ks:List Int}(h:Kn k ks)(hu:Sp.used f l k=true):∀v∈l,v∈ks:=fun v hv=>by
 simp only[Sp.used,zhm,zgz]at hu;have:=hu v hv;exact h v (within_iff.1 this.1).1 this.2
theorem qtt(f:Fn):∀(l:List qau) (s s':DK) (ks:List Int),Kn s.2 ks->qdg (Sp.qcl f) l s=some s'->qq2 l ks/\Kn s'.2 (ks++dl l)
 |[],s,s',ks,h,e=>by
  injection e with e;subst e;exact⟨trivial,by simpa[dl]using h⟩
 |x::l,s,s',ks,h,e=>by
  simp only[qdg]at e;cases hg:Sp.qcl f s x with
  |none=>rw[hg]at e;cases e
  |some s1=>
   rw[hg]at e;have hn:=qen hg;unfold Sp.qcl at hg;split at hg
   ·rename_i hc;injection hg with hg;subst hg;have hu:=qpe h hc.2.1;cases hx:Sp.named x.op with
    |true=>
     have hr:Sp.result x.op=true:=by rw[<- hn.1];exact hx
     have hd:=hc.2.2.1;simp only[Sp.qf4,hr,if_true,zgz]at hd;have hk:Kn (Sp.mark s x).2 (ks++[x.dest]):=by
      unfold Sp.mark;rw[if_pos hr];exact h.set (within_iff.1 hd.1).1
     obtain⟨r1,r2⟩:=qtt f l _ s' _ hk e;refine⟨⟨hu,by rw[if_pos hx];exact r1⟩,?_⟩
     rw[qe4 hx];simpa using r2
    |false=>
     have hr:Sp.result x.op=false:=by rw[<- hn.1];exact hx
     have hk:Kn (Sp.mark s x).2 ks:=by
      unfold Sp.mark;rw[if_neg (by simp[hr])];exact h
     obtain⟨r1,r2⟩:=qtt f l _ s' _ hk e;refine⟨⟨hu,by rw[if_neg (by simp[hx])];exact r1⟩,?_⟩
     rw[qe5 hx];exact r2
   ·cases hg
theorem q7o{f:Fn}{t:Term}{k:List Bool}{ks:List Int}(h:Kn k ks)(ht:Sp.qdl f t k=true):(t.cond=-1\/t.cond∈ks)/\(∀v∈t.qa4,v∈ks)/\∀e∈t.to,∀v∈e.args,v∈ks:=by
 simp only[Sp.qdl,zgz,zh0,decide_eq_true_eq,zhm]at ht;obtain⟨⟨⟨hk,_,hr⟩,hc⟩,he⟩:=ht;refine⟨?_,?_,fun e hm v hv=>?_⟩
 ·unfold Sp.qo0 at hc;split at hc
  ·simp only[zgz]at hc;exact .inr (qpe h hc.1 _ (by simp))
  ·exact .inl (of_decide_eq_true hc)
 ·unfold Sp.kindOk at hk;split at hk
  ·rename_i h12;have:t.qa4=[]:=by
    rcases hr with h3|h3
    ·omega
    ·exact zi4 (by omega)
   rw[this];intro v hv;cases hv
  ·split at hk
   ·simp only[zgz]at hk;exact qpe h hk.1.2
   ·cases hk
 ·have:=he e hm;simp only[Sp.qc8,zgz]at this;exact qpe h this.1.2 v hv
theorem q9b{f:Fn}{d d':List Bool}{b:Block}(h:Sp.qcp f d b=some d'):q5q b:=by
 have hd:=(qmd h).2;simp only[Sp.qcp]at h;split at h
 ·split at h
  ·rename_i s1 h1;split at h
   ·rename_i s2 h2;split at h
    ·rename_i ht;have k0:Kn (List.replicate f.qab.length false) []:=fun v _ hk=>by
      rw[zg0,List.getElem?_replicate]at hk;split at hk<;>cases hk
     have k1:=qz5 f b.params _ s1 [] k0 h1;obtain⟨u,k2⟩:=qtt f b.insts s1 s2 _ k1 h2;simp only[zhv]at u k2;obtain⟨t1,t2,t3⟩:=q7o k2 ht;exact⟨u,t1,t2,t3,hd⟩
    ·cases h
   ·cases h
  ·cases h
 ·cases h
theorem qlj{f:Fn}(h:Sp.valid f=true):∀b∈f.blocks,∃d d',Sp.qcp f d b=some d':=fun b hb=>by
 simp only[Sp.valid,zgz]at h;obtain⟨d,hd⟩:=Option.isSome_iff_exists.1 h.2;exact qe3 _ _ _ hd b hb
theorem qdw{f:Fn}{i:Nat}(hi:i<f.blocks.length):f.blocks.getD i Block.z∈f.blocks:=by
 rw[zg0,zhb hi];exact zh4 hi
theorem qtv{g:Block->List Int}:∀(L:List Block),(L.flatMap g).Nodup->(∀i,i<L.length->(g (L.getD i Block.z)).Nodup)/\∀i j,i<L.length->j<L.length->i≠j->∀v,v∈g (L.getD i Block.z)->v∈g (L.getD j Block.z)->False
 |[],_=>⟨fun i h=>absurd h (zhf _),fun i j h=>absurd h (zhf _)⟩
 |b::L,h=>by
  rw[List.flatMap_cons]at h;obtain⟨n1,n2,n3⟩:=zhq.1 h;obtain⟨k1,k2⟩:=qtv L n2;have hm:∀i,i<L.length->∀v,v∈g (L.getD i Block.z)->v∈L.flatMap g:=fun i hi v hv=>zir.2 ⟨_,by
   rw[zg0,zhb hi];exact zh4 hi,hv⟩
  refine⟨fun i hi=>?_,fun i j hi hj hne v h1 h2=>?_⟩
  ·cases i with
   |zero=>exact n1
   |succ i=>exact k1 i (by simpa using hi)
  ·cases i with
   |zero=>
    cases j with
    |zero=>exact hne rfl
    |succ j=>exact n3 v h1 v (hm j (by simpa using hj) v h2) rfl
   |succ i=>
    cases j with
    |zero=>exact n3 v h2 v (hm i (by simpa using hi) v h1) rfl
    |succ j=>exact k2 i j (by simpa using hi) (by simpa using hj) (by omega) v h1 h2
theorem qsi(f:Fn)(h:(f.blocks.flatMap Sp.qcb).Nodup):∀l:List Int,l.Nodup->(∀b∈l,0<=b/\b<f.blocks.length)->(qa1 f l).Nodup
 |[],_,_=>by simp[qa1]
 |b::l,hn,hr=>by
  obtain⟨n1,n2⟩:=zhu.1 hn;have hb:=hr b (zg5 ..);obtain⟨k1,k2⟩:=qtv f.blocks h;have e1:qa1 f (b::l)=Sp.qcb (f.blocks.getD b.toNat Block.z)++qa1 f l:=by simp[qa1]
  rw[e1];refine zhq.2 ⟨k1 b.toNat (by omega),qsi f h l n2 (fun c hc=>hr c (zg8 _ hc)),fun v hv u hu e=>?_⟩;subst e;obtain⟨c,hc,hcv⟩:=zir.1 hu;have hc2:=hr c (zg8 _ hc);exact k2 b.toNat c.toNat (by omega) (by omega) (fun e=>n1 (by rw[show b=c by omega];exact hc)) v hv hcv
theorem qgx{f:Fn}(h:Sp.valid f=true):VOk f:=by
 have ho:=qbh f;have hd:=qjm h;refine⟨fun i hi=>?_,fun i hi=>(qkw h _ (qdw hi)).2,qsi f hd.1 _ ho.2 ho.1,fun v hv=>?_⟩
 ·obtain⟨d,d',hb⟩:=qlj h _ (qdw hi);exact q9b hb
 ·obtain⟨b,hb,hbv⟩:=zir.1 hv;have:=ho.1 b hb;exact hd.2.1 v (zir.2 ⟨_,qdw (by omega),hbv⟩)
end
end Go.Abs
namespace Go.Abs
open Go Go.Proofs
noncomputable section
theorem q2e(op:Int):Sp.arity op<=3:=by
 unfold Sp.arity
 repeat' split
 all_goals omega
theorem q48{f:Fn}{e:Edge}{k:List Bool}(h:Sp.qc8 f e k=true):((f.blocks.getD e.block.toNat Block.z).params.length:Int)=e.args.length/\0<=e.block/\e.block<f.blocks.length:=by
 unfold Sp.qc8 at h;simp only[zgz,zhn,decide_eq_false_iff_not,decide_eq_true_eq]at h;exact⟨h.2.1,by omega,by omega⟩
theorem q6k{f:Fn}(h:Sp.valid f=true){i:Nat}(hi:i<f.blocks.length):(f.blocks.getD i Block.z).params.length<=f.qab.length:=by
 have hd:=qjm h;have k:=(qtv f.blocks hd.1).1 i hi;have k1:(f.blocks.getD i Block.z).params.Nodup:=(zhq.1 (by rw[<- qgi];exact k)).1
 have hr:∀v∈(f.blocks.getD i Block.z).params,0<=v/\v<(f.qab.length:Int):=fun v hv=>hd.2.1 v (zir.2 ⟨_,qdw hi,zho _ hv⟩);have:∀(n:Nat) (l:List Int),l.Nodup->(∀v∈l,0<=v/\v<(n:Int))->l.length<=n:=by
  intro n
  induction n with
  |zero=>
   intro l _ hl;cases l with
   |nil=>exact zg3 _
   |cons v l=>have:=hl v (zg5 ..);omega
  |succ n ih=>
   intro l hn hl;have e:=ih (l.filter fun v=>!decide (v=(n:Int))) (hn.filter _) (fun v hv=>by
    obtain⟨h1,h2⟩:=zig.1 hv;have:=hl v h1;simp at h2
    omega)
   have h2:∀(l:List Int),l.Nodup->l.length<=(l.filter fun v=>!decide (v=(n:Int))).length+1:=by
    intro l
    induction l with
    |nil=>intro _;simp
    |cons v l ih2=>
     intro hn;obtain⟨n1,n2⟩:=zhu.1 hn;by_cases e:v=(n:Int)
     ·subst e;have:(l.filter fun v=>!decide (v=(n:Int)))=l:=List.filter_eq_self.2 fun u hu=>by
       have:u≠(n:Int):=fun e=>n1 (e▸hu);simp[this]
      rw[List.filter_cons_of_neg (by simp),this];simp
     ·rw[List.filter_cons_of_pos (by simp[e])];have:=ih2 n2;simp only[zg1];omega
   have:=h2 l hn;omega
 exact this _ _ k1 hr
theorem q2v{f:Fn}(h:Sp.valid f=true)(hw:f.qab.length<=65536)(hrt:f.qa4.length<=64){i:Nat}(hi:i<f.blocks.length):SmB (f.blocks.getD i Block.z):=by
 have hp:=q6k h hi;obtain⟨d,d',hb⟩:=qlj h _ (qdw hi);generalize hB:f.blocks.getD i Block.z=B at hb hp ⊢;have hto:=(qkw h B (hB▸qdw hi)).1;simp only[Sp.qcp]at hb;split at hb
 ·rename_i hl;split at hb
  ·rename_i s1 h1;split at hb
   ·rename_i s2 h2;split at hb
    ·rename_i ht;have hins:B.insts.length<=4096:=by
      unfold Sp.q0l at hl;simp only[zgz,zhn,decide_eq_false_iff_not]at hl;omega
     simp only[Sp.qdl,zgz,zh0,decide_eq_true_eq,zhm]at ht;obtain⟨⟨⟨hk,_,hr⟩,hc⟩,he⟩:=ht;refine⟨by omega,by omega,by omega,?_,fun x hx=>?_,fun e hm=>?_⟩
     ·unfold Sp.kindOk at hk;split at hk
      ·rcases hr with h3|h3<;>omega
      ·split at hk
       ·simp only[zgz,decide_eq_true_eq]at hk;omega
       ·cases hk
     ·obtain⟨t1,t2,hx2⟩:=qe3 _ _ _ h2 x hx;unfold Sp.qcl at hx2;split at hx2
      ·rename_i hc;have:=q2e x.op;omega
      ·cases hx2
     ·have k:=q48 (he e hm);have:=q6k h (i:=e.block.toNat) (by omega);omega
    ·cases hb
   ·cases hb
  ·cases hb
 ·cases hb
theorem qhf{f:Fn}(h:Sp.valid f=true):f.qab.length<=65536/\f.qa4.length<=64/\0<f.blocks.length/\f.blocks.length<=1024:=by
 simp only[Sp.valid,Sp.qr7,Sp.qab,zgz,zhn,decide_eq_false_iff_not,decide_eq_true_eq]at h;omega
theorem qup{f:Fn}(hf:f.ok)(h:Sp.valid f=true):Rr f:=by
 obtain⟨h1,h2,h3,h4⟩:=qhf h;have ho:=qbh f;have hl:=qiw f;have hd:=qjm h;have hdef:∀i,i<f.blocks.length->∀v∈Sp.qcb (f.blocks.getD i Block.z),0<=v/\v<(f.qab.length:Int):=fun i hi v hv=>hd.2.1 v (zir.2 ⟨_,qdw hi,hv⟩);refine⟨⟨hf,by omega,by omega,fun i hi=>q2v h h1 h2 hi,ho.1,ho.2,by omega⟩,fun i hi k hk=>?_,h3,fun i hi=>?_⟩
 ·refine(qkw h _ (qdw hi)).2 _ ?_;have mem:∀T:List Edge,k<T.length->T.getD k Edge.z∈T:=fun T hk=>by
   rw[zg0,zhb hk];exact zh4 hk
  exact mem _ hk
 ·have hu:=(qgx h).use i hi;have hdi:=hdef i hi;refine⟨fun v hv=>hdi v (zho _ hv),fun x hx=>?_,fun x hx v hv=>hdi v (qlk _ _ hu.is x hx v hv),?_,fun v hv=>hdi v (hu.rs v hv),(qkw h _ (qdw hi)).2,fun e he v hv=>hdi v (hu.es e he v hv)⟩
  ·cases hn:Sp.named x.op with
   |true=>exact(hdi _ (zh1 _ (q1o hx hn))).2
   |false=>
    have:=hu.ds x hx hn;omega
  ·rcases hu.cd with e|e
   ·omega
   ·exact(hdi _ e).2
end
end Go.Abs
namespace Go.Abs
open Go Go.Proofs
noncomputable section
theorem qos{α σ:Type}(I:σ->Prop)(g g':σ->α->σ)(h:∀s a,I s->g s a=g' s a/\I (g s a)):∀(l:List α) (s:σ),I s->l.foldl g s=l.foldl g' s
 |[],_,_=>rfl
 |a::l,s,hs=>by
  obtain⟨h1,h2⟩:=h s a hs;rw[zh8,zh8,<- h1];exact qos I g g' h l _ h2
theorem qn5(f:Fn):∀(n n':Nat) (b:Int) (s:List Bool×List Int),qbk s.1<n->qbk s.1<n'->Sp.visit f n b s=Sp.visit f n' b s
 |0,_,_,_,h,_=>absurd h (zhf _)
 |_+1,0,_,_,_,h=>absurd h (zhf _)
 |n+1,n'+1,b,s,h,h'=>by
  unfold Sp.visit;split
  ·rfl
  ·rename_i hb;split
   ·rfl
   ·rename_i hs;have hu:=qfr (l:=s.1) (i:=b.toNat) (by omega) (by simpa using hs);refine qos (fun r:List Bool×List Int=>qbk r.1<=qbk (s.1.set b.toNat true)) _ _ (fun r e hr=>⟨qn5 f n n' e.block r (by omega) (by omega),?_⟩) _ _ (zg3 _);exact zhy (qeu f n e.block r).2.2 hr
def beta(f:Fn):Int->Int:=Sp.index (Sp.order f)
theorem qdh(f:Fn):(Sp.canon f).blocks.length=(Sp.order f).length:=by simp[Sp.canon]
theorem qjb(f:Fn){b:Int}(hb:b∈Sp.order f):(Sp.canon f).blocks.getD (beta f b).toNat Block.z=Sp.reG f (reB (Sp.ren f) (f.blocks.getD b.toNat Block.z)):=by
 obtain⟨k,h1,h2,h3⟩:=qdq (qbh f).2 hb;unfold beta;rw[h3];have h4:k<((Sp.order f).map fun b=>Sp.reG f (reB (Sp.ren f) (f.blocks.getD b.toNat Block.z))).length:=by simpa using h1
 show((Sp.order f).map fun b=>Sp.reG f (reB (Sp.ren f) (f.blocks.getD b.toNat Block.z))).getD k Block.z=_;rw[zg0,zhb h4,zhi,ziv];rw[zg0,zhb h1,zhi]at h2;rw[h2]
theorem qqq(f:Fn){b:Int}(hb:b∈Sp.order f):0<=beta f b/\beta f b<(Sp.canon f).blocks.length:=by
 obtain⟨k,h1,h2,h3⟩:=qdq (qbh f).2 hb;rw[qdh];unfold beta;omega
theorem qwg(f:Fn){b c:Int}(hb:b∈Sp.order f)(hc:c∈Sp.order f)(h:beta f b=beta f c):b=c:=by
 obtain⟨k,h1,h2,h3⟩:=qdq (qbh f).2 hb;obtain⟨j,g1,g2,g3⟩:=qdq (qbh f).2 hc;unfold beta at h;rw[h3,g3]at h;have:k=j:=by omega
 subst this;rw[<- h2,<- g2]
theorem qq0(f:Fn)(hv:VOk f):∀(n:Nat) (b:Int) (s:List Bool×List Int),b∈Sp.order f->(∀v∈s.2,v∈Sp.order f)->s.1=qb8 f s.2->(∀v∈(Sp.visit f n b s).2,v∈Sp.order f) /\
  Sp.visit (Sp.canon f) n (beta f b) (qb8 (Sp.canon f) (s.2.map (beta f)),s.2.map (beta f))=(qb8 (Sp.canon f) ((Sp.visit f n b s).2.map (beta f)),(Sp.visit f n b s).2.map (beta f))
 |0,b,s,_,hs,_=>⟨hs,rfl⟩
 |n+1,b,s,hb,hs,h1=>by
  have hr:=(qbh f).1 b hb;have hr2:=qqq f hb;have hl:s.1.length=f.blocks.length:=by rw[h1,qg0]
  have eS:(qb8 (Sp.canon f) (s.2.map (beta f))).getD (beta f b).toNat false=s.1.getD b.toNat false:=by
   rw[qis _ _ hr2.1 hr2.2,h1,qis _ _ hr.1 hr.2,List.any_map];refine Bool.eq_iff_iff.2 ?_;simp only[List.any_eq_true,Function.comp,decide_eq_true_eq];exact⟨fun⟨x,hx,e⟩=>⟨x,hx,qwg f (hs x hx) hb e⟩,fun⟨x,hx,e⟩=>⟨x,hx,by rw[e]⟩⟩
  unfold Sp.visit;rw[if_neg (show ¬ (b<0\/(s.1.length:Int)<=b)by omega),if_neg (show ¬ (beta f b<0\/((qb8 (Sp.canon f) (s.2.map (beta f))).length:Int)<=beta f b)by rw[qg0];omega)]
  simp only[eS];cases hsn:s.1.getD b.toNat false with
  |true=>exact⟨hs,rfl⟩
  |false=>
   simp only[zhs,if_false];have e1:(qb8 (Sp.canon f) (s.2.map (beta f))).set (beta f b).toNat true=qb8 (Sp.canon f) ((s.2++[b]).map (beta f)):=by
    rw[qft _ _ hr2.1 hr2.2,zix];rfl
   have e2:s.2.map (beta f)++[beta f b]=(s.2++[b]).map (beta f):=by simp
   rw[e1,e2,qjb f hb];have e3:s.1.set b.toNat true=qb8 f (s.2++[b]):=by rw[h1];exact qft f s.2 hr.1 hr.2
   rw[e3];have et:∀e∈(f.blocks.getD b.toNat Block.z).term.to,e.block∈Sp.order f:=fun e he=>by
    have:=hv.es b.toNat (by omega) e he;exact qd7 f (b:=b.toNat) (by rw[ziu hr.1];exact hb) he this.1 this.2
   have key:∀(l:List Edge) (o:List Int),(∀e∈l,e.block∈Sp.order f)->(∀v∈o,v∈Sp.order f)->(∀v∈(l.foldl (fun s e=>Sp.visit f n e.block s) (qb8 f o,o)).2,v∈Sp.order f) /\
     (l.map fun e=>(⟨beta f e.block,e.args.map (Sp.ren f)⟩:Edge)).foldl (fun s e=>Sp.visit (Sp.canon f) n e.block s) (qb8 (Sp.canon f) (o.map (beta f)),o.map (beta f))=(qb8 (Sp.canon f) ((l.foldl (fun s e=>Sp.visit f n e.block s) (qb8 f o,o)).2.map (beta f)),(l.foldl (fun s e=>Sp.visit f n e.block s) (qb8 f o,o)).2.map (beta f)):=by
    intro l
    induction l with
    |nil=>intro o _ ho;exact⟨ho,rfl⟩
    |cons e l ih=>
     intro o hl ho;obtain⟨k1,k2⟩:=qq0 f hv n e.block (qb8 f o,o) (hl e (zg5 ..)) ho rfl;have k3:=qjl f n e.block (qb8 f o,o) rfl;have ih':=ih (Sp.visit f n e.block (qb8 f o,o)).2 (fun e he=>hl e (zg8 _ he)) k1;rw[zhg,zh8,zh8];simp only at k2 ⊢;rw[k2];have e5:Sp.visit f n e.block (qb8 f o,o)=(qb8 f (Sp.visit f n e.block (qb8 f o,o)).2,(Sp.visit f n e.block (qb8 f o,o)).2):=Prod.ext k3 rfl;rw[<- e5]at ih';exact ih'
   have fin:=key (f.blocks.getD b.toNat Block.z).term.to (s.2++[b]) et (fun v hv=>by
    rcases zhj.1 hv with h|h
    ·exact hs v h
    ·rw[zh7.1 h];exact hb)
   refine⟨fin.1,?_⟩;have e6:(Sp.reG f (reB (Sp.ren f) (f.blocks.getD b.toNat Block.z))).term.to=(f.blocks.getD b.toNat Block.z).term.to.map fun e=>(⟨beta f e.block,e.args.map (Sp.ren f)⟩:Edge):=by
    simp[Sp.reG,reB,reE,beta,Function.comp]
   rw[e6];exact fin.2
end
end Go.Abs
namespace Go.Abs
open Go Go.Proofs
noncomputable section
theorem qkc(f:Fn):∀(n:Nat) (b:Int) (s:List Bool×List Int),∃t,(Sp.visit f n b s).2=s.2++t
 |0,b,s=>⟨[],by simp[Sp.visit]⟩
 |n+1,b,s=>by
  unfold Sp.visit;split
  ·exact⟨[],by simp⟩
  ·split
   ·exact⟨[],by simp⟩
   ·refine qeb (fun r:List Bool×List Int=>∃t,r.2=s.2++t) _ (fun r e hr=>?_) _ _ ⟨[b],rfl⟩;obtain⟨t,ht⟩:=hr;obtain⟨t',ht'⟩:=qkc f n e.block r;exact⟨t++t',by rw[ht',ht,zib]⟩
theorem qjx(f:Fn)(h0:0<f.blocks.length):∃t,Sp.order f=0::t:=by
 unfold Sp.order Sp.visit;rw[if_neg (show ¬ ((0:Int)<0\/(((List.replicate f.blocks.length false,([]:List Int)).1.length:Nat):Int)<=0)by rw[zia];omega)]
 have hs:((List.replicate f.blocks.length false,([]:List Int)).1.getD (0:Int).toNat false)=false:=by
  simp[zg0,List.getElem?_replicate,h0]
 rw[if_neg (by rw[hs];simp)]
 have:=qeb (fun r:List Bool×List Int=>∃t,r.2=0::t) (fun s (e:Edge)=>Sp.visit f f.blocks.length e.block s) (fun r e hr=>by
  obtain⟨t,ht⟩:=hr;obtain⟨t',ht'⟩:=qkc f f.blocks.length e.block r;exact⟨t++t',by rw[ht',ht];rfl⟩) (f.blocks.getD (0:Int).toNat Block.z).term.to ((List.replicate f.blocks.length false).set (0:Int).toNat true,[]++[0]) ⟨[],rfl⟩
 exact this
theorem qme{l:List Int}(hn:l.Nodup):l.map (Sp.index l)=(List.range l.length).map fun(i:Nat)=>(i:Int):=by
 refine zih (by simp) fun i h1 h2=>?_;have h3:i<l.length:=by simpa using h1
 have:=qfe hn h3;rw[zg0,zhb h3,zhi]at this;simp only[ziv,zin];exact this
theorem ql6(f:Fn)(hv:VOk f)(h0:0<f.blocks.length):Sp.order (Sp.canon f)=(List.range (Sp.order f).length).map fun(i:Nat)=>(i:Int):=by
 obtain⟨t,ht⟩:=qjx f h0;have hm:(0:Int)∈Sp.order f:=by rw[ht];exact zg5 ..
 have hb0:beta f 0=0:=by
  unfold beta;have hn:=(qbh f).2;rw[ht]at hn ⊢;exact qeo hn
 have k:=(qq0 f hv (f.blocks.length+1) 0 (qb8 f [],[]) hm (fun v hv=>by cases hv) rfl).2;simp only[zik,hb0]at k;have hl:=qiw f;have e1:Sp.order f=(Sp.visit f (f.blocks.length+1) 0 (qb8 f [],[])).2:=by rw[qfu];rfl
 have fu:=qn5 (Sp.canon f) ((Sp.canon f).blocks.length+1) (f.blocks.length+1) 0 (qb8 (Sp.canon f) [],[]) (by rw[qfu,qep];omega) (by rw[qfu,qep,qdh];omega)
 have e2:Sp.order (Sp.canon f)=(Sp.visit (Sp.canon f) ((Sp.canon f).blocks.length+1) 0 (qb8 (Sp.canon f) [],[])).2:=by rw[qfu];rfl
 rw[e2,fu,k,<- e1];exact qme (qbh f).2
theorem q1p(r:Int->Int):∀l:List qau,dl (l.map (reI r))=(dl l).map r
 |[]=>rfl
 |x::l=>by
  rw[zhg];cases hx:Sp.named x.op with
  |true=>
   rw[qe4 (x:=reI r x) hx,qe4 hx,zhg,q1p r l];simp[reI,hx]
  |false=>rw[qe5 (x:=reI r x) hx,qe5 hx,q1p r l]
theorem qi8(f:Fn)(b:Block)(r:Int->Int):Sp.qcb (Sp.reG f (reB r b))=(Sp.qcb b).map r:=by
 rw[qgi,qgi,zix];show b.params.map r++dl (b.insts.map (reI r))=_;rw[q1p]
theorem qj7(f:Fn)(hv:VOk f)(h0:0<f.blocks.length):qa1 (Sp.canon f) (Sp.order (Sp.canon f))=(List.range (qa1 f (Sp.order f)).length).map fun(i:Nat)=>(i:Int):=by
 have e1:Sp.order (Sp.canon f)=(Sp.order f).map (beta f):=by
  rw[ql6 f hv h0];exact(qme (qbh f).2).symm
 rw[e1,<- qme hv.nd];unfold qa1;rw[List.flatMap_map,List.map_flatMap];have:∀l:List Int,(∀b∈l,b∈Sp.order f)->(l.flatMap fun b=>Sp.qcb ((Sp.canon f).blocks.getD (beta f b).toNat Block.z))=l.flatMap fun b=>(Sp.qcb (f.blocks.getD b.toNat Block.z)).map (Sp.ren f):=by
  intro l
  induction l with
  |nil=>intro _;rfl
  |cons b l ih=>
   intro h;rw[List.flatMap_cons,List.flatMap_cons,ih (fun c hc=>h c (zg8 _ hc)),qjb f (h b (zg5 ..)),qi8]
 exact this _ fun b hb=>hb
end
end Go.Abs
namespace Go.Abs
open Go Go.Proofs
noncomputable section
theorem q6h(k:Nat):((List.range k).map fun(i:Nat)=>(i:Int)).Nodup:=List.pairwise_map.2 (List.nodup_range.imp fun h e=>h (by omega))
theorem qr4{k:Nat}{v:Int}(h0:0<=v)(h1:v<k):Sp.index ((List.range k).map fun(i:Nat)=>(i:Int)) v=v:=by
 have h2:v.toNat<(List.range k).length:=by simp;omega
 have h3:v.toNat<((List.range k).map fun(i:Nat)=>(i:Int)).length:=by simp;omega
 have e:((List.range k).map fun(i:Nat)=>(i:Int)).getD v.toNat 0=v:=by
  simp only[zg0,zh5,zhb h2,zin,zii,zhi];omega
 have:=qfe (q6h k) h3;rw[e]at this;rw[this];omega
theorem qq1(r:Int->Int):∀(l:List qau) (ks:List Int),qq2 l ks->qq2 (l.map (reI r)) (ks.map r)
 |[],_,_=>trivial
 |x::l,ks,h=>by
  obtain⟨h1,h2⟩:=h;refine⟨fun v hv=>?_,?_⟩
  ·obtain⟨u,hu,rfl⟩:=zhk.1 hv;exact zhk.2 ⟨u,h1 u hu,rfl⟩
  ·have:=qq1 r l _ h2;cases hx:Sp.named x.op with
   |true=>
    rw[if_pos hx]at this;rw[if_pos (show Sp.named (reI r x).op=true from hx)];rw[zix]at this;simpa[reI,hx]using this
   |false=>
    rw[if_neg (by simp[hx])]at this;rw[if_neg (by show ¬ Sp.named x.op=true;simp[hx])]
    exact this
theorem q7d(f:Fn)(r:Int->Int){b:Block}(h:q5q b):q5q (Sp.reG f (reB r b)) where
 is:=qq1 r _ _ h.is
 cd:=by
  rw[qi8];show(if b.term.cond=-1 then(-1:Int)else r b.term.cond)=-1\/_;by_cases hc:b.term.cond=-1
  ·left;rw[if_pos hc]
  ·right
   show(if b.term.cond=-1 then(-1:Int)else r b.term.cond)∈_;rw[if_neg hc];exact zhk.2 ⟨_,h.cd.resolve_left hc,rfl⟩
 rs:=fun v hv=>by
  rw[qi8];obtain⟨u,hu,rfl⟩:=zhk.1 (show v∈b.term.qa4.map r from hv);exact zhk.2 ⟨u,h.rs u hu,rfl⟩
 es:=fun e he v hv=>by
  rw[qi8];obtain⟨e1,he1,rfl⟩:=zhk.1 (show e∈(b.term.to.map (reE r)).map _ from he);obtain⟨e2,he2,rfl⟩:=zhk.1 he1;obtain⟨u,hu,rfl⟩:=zhk.1 (show v∈e2.args.map r from hv);exact zhk.2 ⟨u,h.es e2 he2 u hu,rfl⟩
 ds:=fun x hx hn=>by
  obtain⟨y,hy,rfl⟩:=zhk.1 (show x∈b.insts.map (reI r)from hx);have hn':Sp.named y.op=false:=hn;show(if Sp.named y.op=true then r y.dest else y.dest)=-1;rw[if_neg (by simp[hn'])];exact h.ds y hy hn'
theorem zbu{b:Block}:reB (fun v=>v) b=b:=by
 obtain⟨ps,is,⟨k,c,to,rs⟩,pi,un,li⟩:=b;have e1:is.map (reI fun v=>v)=is:=by
  refine(zhx fun x _=>?_).trans (List.map_id is);obtain⟨a1,a2,a3,a4,a5⟩:=x;simp[reI]
 have e2:to.map (reE fun v=>v)=to:=by
  refine(zhx fun x _=>?_).trans (List.map_id to);obtain⟨a1,a2⟩:=x;simp[reE]
 simp only[reB,e1,e2,List.map_id'];congr 2;split
 ·rename_i h;exact h.symm
 ·rfl
theorem qwd(f:Fn){i:Nat}(hi:i<(Sp.order f).length):(Sp.canon f).blocks.getD i Block.z=Sp.reG f (reB (Sp.ren f) (f.blocks.getD ((Sp.order f).getD i 0).toNat Block.z))/\(Sp.order f).getD i 0∈Sp.order f:=by
 have hm:(Sp.order f).getD i 0∈Sp.order f:=by
  rw[zg0,zhb hi];exact zh4 hi
 have k:=qjb f hm;have e:beta f ((Sp.order f).getD i 0)=i:=qfe (qbh f).2 hi;rw[e]at k;exact⟨k,hm⟩
theorem q1y(f:Fn)(hv:VOk f)(h0:0<f.blocks.length):VOk (Sp.canon f) where
 use:=fun i hi=>by
  rw[qdh]at hi;obtain⟨k,hm⟩:=qwd f hi;have:=(qbh f).1 _ hm;rw[k];exact q7d f _ (hv.use _ (by omega))
 es:=fun i hi e he=>by
  rw[qdh]at hi;obtain⟨k,hm⟩:=qwd f hi;have hr:=(qbh f).1 _ hm;rw[k]at he;obtain⟨e1,he1,rfl⟩:=zhk.1 (show e∈((f.blocks.getD ((Sp.order f).getD i 0).toNat Block.z).term.to.map (reE (Sp.ren f))).map _ from he);obtain⟨e2,he2,rfl⟩:=zhk.1 he1;have h2:=hv.es _ (by omega) e2 he2;show 0<=beta f e2.block/\beta f e2.block<_;exact qqq f (qd7 f (e:=e2) (b:=((Sp.order f).getD i 0).toNat) (by rw[ziu hr.1];exact hm) he2 h2.1 h2.2)
 nd:=by rw[qj7 f hv h0];exact q6h _
 rg:=by
  rw[qj7 f hv h0];intro v hv;obtain⟨i,hi,rfl⟩:=zhk.1 hv;have:=zif.1 hi;simp only[Sp.canon,zha];omega
theorem qt3(f:Fn)(hv:VOk f)(h0:0<f.blocks.length):Sp.canon (Sp.canon f)=Sp.canon f:=by
 have hg:=q1y f hv h0;have eo:=ql6 f hv h0;have ed:=qj7 f hv h0;have eW:(Sp.canon f).qab.length=(qa1 f (Sp.order f)).length:=by simp[Sp.canon]
 have w1:(qa1 (Sp.canon f) (Sp.order (Sp.canon f))).map (fun v=>(Sp.canon f).qab.getD v.toNat 0)=(Sp.canon f).qab:=by
  rw[ed,<- eW,List.map_map];refine zih (by simp) fun i h1 h2=>?_;simp[zg0,zhb h2]
 have b1:(Sp.order (Sp.canon f)).map (fun b=>Sp.reG (Sp.canon f) (reB (Sp.ren (Sp.canon f)) ((Sp.canon f).blocks.getD b.toNat Block.z)))=(Sp.canon f).blocks:=by
  rw[eo,List.map_map];refine zih (by simp[qdh]) fun i h1 h2=>?_;simp only[ziv,zin,Function.comp,zhe];have e2:(Sp.canon f).blocks.getD i Block.z=(Sp.canon f).blocks[i]:=by rw[zg0,zhb h2,zhi]
  have hu:=hg.use i h2;have hes:=hg.es i h2;have hi:(i:Int)∈Sp.order (Sp.canon f):=by
   rw[eo];exact zhk.2 ⟨i,zif.2 (by rw[<- qdh];exact h2),rfl⟩
  have er:reB (Sp.ren (Sp.canon f)) ((Sp.canon f).blocks.getD i Block.z)=(Sp.canon f).blocks.getD i Block.z:=by
   refine(ql3 hu (r':=fun v=>v) fun v hv'=>?_).trans zbu;have hm:v∈qa1 (Sp.canon f) (Sp.order (Sp.canon f)):=zir.2 ⟨_,hi,hv'⟩;have:=hg.rg v hm;unfold Sp.ren;rw[ed];exact qr4 this.1 (by rw[<- eW];exact this.2)
  rw[er,<- e2];generalize hB:(Sp.canon f).blocks.getD i Block.z=B at hes;obtain⟨ps,is,⟨k,c,to,rs⟩,pi,un,li⟩:=B;unfold Sp.reG;congr 2;refine(zhx fun e he=>?_).trans (List.map_id to);have:=hes e he;rw[eo,qr4 this.1 (by rw[<- qdh];exact this.2)]
  rfl
 show(⟨_,_,_,_,_,_⟩:Fn)=_;rw[w1,b1]
end
end Go.Abs
namespace Go.Abs
open Go Go.Proofs
noncomputable section
theorem filter_one(n:Int):∀l:List Int,l.Nodup->l.length<=(l.filter fun v=>!decide (v=n)).length+1
 |[],_=>by simp
 |v::l,hn=>by
  obtain⟨n1,n2⟩:=zhu.1 hn;by_cases e:v=n
  ·subst e;have:(l.filter fun u=>!decide (u=v))=l:=List.filter_eq_self.2 fun u hu=>by
    have:u≠v:=fun e=>n1 (e▸hu);simp[this]
   rw[List.filter_cons_of_neg (by simp),this];simp
  ·rw[List.filter_cons_of_pos (by simp[e])];have:=filter_one n l n2;simp only[zg1];omega
theorem qpw:∀(n:Nat) (l:List Int),l.Nodup->(∀v∈l,0<=v/\v<(n:Int))->l.length<=n
 |0,l,_,hl=>by
  cases l with
  |nil=>exact zg3 _
  |cons v l=>have:=hl v (zg5 ..);omega
 |n+1,l,hn,hl=>by
  have e:=qpw n (l.filter fun v=>!decide (v=(n:Int))) (hn.filter _) (fun v hv=>by
   obtain⟨h1,h2⟩:=zig.1 hv;have:=hl v h1;simp at h2
   omega)
  have:=filter_one n l hn;omega
theorem qvx(l:List Int)(v:Int) : -1<=Sp.index l v/\Sp.index l v<=l.length:=by
 by_cases h:v∈l
 ·unfold Sp.index;cases hf:qm0 (fun i=>decide (v=l.getD i 0)) l.length 0 with
  |none=>simp only[qdz];omega
  |some i=>
   have:=qho hf;simp only[qdz];omega
 ·rw[qlc h];omega
theorem All.map{α β:Type}{k:Nat}{p:α->Prop}{q:β->Prop}{g:α->β}{l:List α}(h:All k p l)(hg:∀a∈l,p a->q (g a)):All k q (l.map g):=
 ⟨by rw[zha];exact h.1,fun b hb=>by
  obtain⟨a,ha,rfl⟩:=zhk.1 hb;exact hg a ha (h.2 a ha)⟩
theorem q5d{f:Fn}(hf:f.ok)(hv:VOk f)(hw:f.qab.length<=65536)(hb:f.blocks.length<=1024):(Sp.canon f).ok:=by
 obtain⟨o1,o2,o3,o4,o5,o6⟩:=hf;have hD:(qa1 f (Sp.order f)).length<=f.qab.length:=qpw _ _ hv.nd hv.rg;have hl:=qiw f;have ho:=qbh f;have hr:∀v,I64 (Sp.ren f v):=fun v=>by
  have:=qvx (qa1 f (Sp.order f)) v;unfold I64 Sp.ren;omega
 have hbt:∀v,I64 (Sp.index (Sp.order f) v):=fun v=>by
  have:=qvx (Sp.order f) v;unfold I64;omega
 refine⟨o1,⟨?_,fun w hw'=>?_⟩,o3,o4,o5,⟨?_,fun B hB=>?_⟩⟩
 ·have h1:=o2.1;simp only[Sp.canon,zha];exact zhy (zie 8 hD) h1
 ·obtain⟨v,hv',rfl⟩:=zhk.1 hw';have:=hv.rg v hv';refine o2.2 _ ?_;rw[zg0,zhb (by omega)];exact zh4 _
 ·rw[qdh];exact zhy (zie 136 hl) o6.1
 ·obtain⟨b,hb',rfl⟩:=zhk.1 hB;have hrb:=ho.1 b hb';obtain⟨p1,p2,p3,p4,p5,p6⟩:=o6.2 _ (qdw (f:=f) (i:=b.toNat) (by omega));obtain⟨t1,t2,t3,t4⟩:=p3;refine⟨p1.map fun v _ _=>hr v,p2.map fun x _ hx=>?_,⟨t1,?_,?_,t4.map fun v _ _=>hr v⟩,p4,p5,p6⟩
  ·obtain⟨x1,x2,x3,x4,x5⟩:=hx;refine⟨x1,?_,x3.map fun v _ _=>hr v,x4,x5⟩;show I64 (if _ then _ else _);split
   ·exact hr _
   ·exact x2
  ·show I64 (if _ then _ else _);split
   ·unfold I64;omega
   ·exact hr _
  ·have k1:All 32 Edge.ok ((f.blocks.getD b.toNat Block.z).term.to.map (reE (Sp.ren f))):=All.map (g:=reE (Sp.ren f)) t3 fun e _ he=>⟨he.1,All.map (g:=Sp.ren f) he.2 fun v _ _=>hr v⟩
   exact All.map (g:=fun e:Edge=>(⟨Sp.index (Sp.order f) e.block,e.args⟩:Edge)) k1 fun e _ he=>⟨hbt _,he.2⟩
end
end Go.Abs
namespace Go.Abs
open Go Go.Proofs
noncomputable section
theorem ok7_of(hvc:∀f:Fn,f.ok->Sp.valid f=true->Sp.valid (Sp.canon f)=true)(f:Fn)(hf:f.ok):go7 f=some (true,()):=by
 unfold go7;rw[qas hf,qah];simp only;cases h1:Sp.few f with
 |false=>rfl
 |true=>
  simp only[zhw,cond_false];rw[qas hf,qah];simp only;cases h2:Sp.valid f with
  |false=>rfl
  |true=>
   have hv:=qgx h2;obtain⟨w1,w2,w3,w4⟩:=qhf h2;have rr:=qup hf h2;have hg:=q5d hf hv w1 w4;have hgv:=hvc f hf h2;have gr:=qup hg hgv;have gg:=qt3 f hv w3;have e1:=ql2 f hv;have e2:=qrg f hv;have e3:=ql2 (Sp.canon f) (qgx hgv);rw[gg]at e3;simp only[zhw,cond_false];rw[qas rr.rn,qah];simp only;rw[qas rr,qah];simp only[qo2,e1,e2];have eg:(⟨f.name,(Sp.canon f).qab,f.qao,f.streams,f.qa4,(Sp.canon f).blocks⟩:Fn)=Sp.canon f:=rfl;simp only[eg];rw[qas hg,qah];simp only[qlx,cond_true];rw[qas hg,qah];simp only[hgv,cond_true];rw[qas gr.rn,qah];simp only[e3,qo2,eg];rw[qas (qxf _),qas hg,qah];simp only[qlx,qjd]
end
end Go.Abs
namespace Go.Abs
open Go Go.Proofs
noncomputable section
theorem qd5(f:Fn)(hv:VOk f){v:Int}(h:v∈qa1 f (Sp.order f)):(Sp.canon f).qab.getD (Sp.ren f v).toNat 0=f.qab.getD v.toNat 0/\0<=Sp.ren f v/\Sp.ren f v<(Sp.canon f).qab.length:=by
 obtain⟨i,h1,h2,h3⟩:=qdq hv.nd h;have eW:(Sp.canon f).qab.length=(qa1 f (Sp.order f)).length:=by simp[Sp.canon]
 unfold Sp.ren;rw[h3,eW];refine⟨?_,by omega,by omega⟩;rw[zg0,zhb h1,zhi]at h2;have h4:i<(Sp.canon f).qab.length:=by rw[eW];exact h1
 rw[zhe,zg0,zhb h4,zhi];simp only[Sp.canon,ziv,h2]
theorem qxl{f:Fn}(h:Sp.valid f=true):Sp.qr7 (Sp.canon f)=true:=by
 have hv:=qgx h;obtain⟨w1,w2,w3,w4⟩:=qhf h;obtain⟨t,ht⟩:=qjx f w3;have hl:=qiw f;have hl1:1<=(Sp.order f).length:=by rw[ht];simp
 have hD:(qa1 f (Sp.order f)).length<=f.qab.length:=qpw _ _ hv.nd hv.rg;simp only[Sp.valid,zgz]at h;have hh:=h.1;unfold Sp.qr7 at hh ⊢;simp only[zgz,zhn,decide_eq_false_iff_not,Sp.qab,zhm,decide_eq_true_eq]at hh ⊢;obtain⟨⟨⟨⟨⟨a1,a2⟩,a3⟩,a4⟩,a5⟩,a6⟩:=hh;refine⟨⟨⟨⟨⟨a1,a2⟩,fun w hw=>?_,?_⟩,a4⟩,?_⟩,?_⟩
 ·obtain⟨v,hv',rfl⟩:=zhk.1 hw;have:=hv.rg v hv';refine a3.1 _ ?_;rw[zg0,zhb (by omega)];exact zh4 _
 ·simp only[Sp.canon,zha];omega
 ·rw[qdh];omega
 ·rw[qdh];omega
theorem q5p(f:Fn)(hv:VOk f)(x:qau)(hx:∀v∈x.args,v∈qa1 f (Sp.order f)):Sp.aL (Sp.canon f) (reI (Sp.ren f) x) x.args.length=Sp.aL f x x.args.length:=by
 have key:∀k,(if k<x.args.length then(Sp.canon f).qab.getD ((reI (Sp.ren f) x).args.getD k 0).toNat 0 else 0)=(if k<x.args.length then f.qab.getD (x.args.getD k 0).toNat 0 else 0):=fun k=>by
  by_cases hk:k<x.args.length
  ·rw[if_pos hk,if_pos hk];have e:(reI (Sp.ren f) x).args.getD k 0=Sp.ren f (x.args.getD k 0):=by
    show(x.args.map (Sp.ren f)).getD k 0=_;simp only[zg0,zh5,zhb hk,zii,zhi]
   rw[e];refine(qd5 f hv (hx _ ?_)).1;rw[zg0,zhb hk];exact zh4 hk
  ·rw[if_neg hk,if_neg hk]
 unfold Sp.aL;rw[key 0,key 1,key 2]
theorem qmp(f:Fn)(hv:VOk f)(x:qau)(hx:∀v∈x.args,v∈qa1 f (Sp.order f))(hn:Sp.named x.op=Sp.result x.op)(hd:Sp.named x.op=true->x.dest∈qa1 f (Sp.order f)):Sp.qd3 (Sp.canon f) (reI (Sp.ren f) x)=Sp.qd3 f x:=by
 have e1:Sp.wOf (Sp.canon f) (reI (Sp.ren f) x)=Sp.wOf f x:=by
  unfold Sp.wOf;show(if Sp.result x.op=true then(Sp.canon f).qab.getD (if Sp.named x.op=true then Sp.ren f x.dest else x.dest).toNat 0 else 0)=_;cases hr:Sp.result x.op with
  |false=>rfl
  |true=>
   have h1:Sp.named x.op=true:=hn.trans hr;rw[if_pos h1,if_pos rfl,if_pos rfl];exact(qd5 f hv (hd h1)).1
 have e2:(reI (Sp.ren f) x).args.length=x.args.length:=by simp[reI]
 unfold Sp.qd3;rw[e1,e2,q5p f hv x hx];rfl
end
end Go.Abs
namespace Go.Abs
open Go Go.Proofs
noncomputable section
def KT(f:Fn)(k:List Bool)(ks:List Int):Prop:=∀v∈ks,k.getD (Sp.ren f v).toNat false=true
theorem qhg{f:Fn}(hv:VOk f){k:List Bool}{ks:List Int}(hk:KT f k ks)(hs:∀v∈ks,v∈qa1 f (Sp.order f)){l:List Int}(hl:∀v∈l,v∈ks):Sp.used (Sp.canon f) (l.map (Sp.ren f)) k=true:=by
 simp only[Sp.used,zhm,zgz];intro u hu;obtain⟨v,hv',rfl⟩:=zhk.1 hu;have hm:=hl v hv';have:=(qd5 f hv (hs v hm)).2;exact⟨within_iff.2 this,hk v hm⟩
theorem qps(f:Fn)(l:List Int){i:Nat}(hi:i<l.length):(l.map (Sp.ren f)).getD i 0=Sp.ren f (l.getD i 0)/\l.getD i 0∈l:=by
 refine⟨?_,?_⟩
 ·simp only[zg0,zh5,zhb hi,zii,zhi]
 ·rw[zg0,zhb hi];exact zh4 hi
theorem qxi{f:Fn}(hv:VOk f)(h0:0<f.blocks.length){k k0:List Bool}{ks:List Int}(hk:KT f k ks)(hs:∀v∈ks,v∈qa1 f (Sp.order f)){e:Edge}(ho:e.block∈Sp.order f)(ha:∀v∈e.args,v∈ks)(h:Sp.qc8 f e k0=true):Sp.qc8 (Sp.canon f) ⟨beta f e.block,e.args.map (Sp.ren f)⟩ k=true:=by
 obtain⟨t,ht⟩:=qjx f h0;have hr:=qqq f ho;have hb1:1<=e.block:=by
  simp only[Sp.qc8,zgz,zhn,decide_eq_false_iff_not]at h;omega
 have hne:beta f e.block≠0:=fun hc=>by
  have hz:beta f 0=0:=by
   have hn:=(qbh f).2;unfold beta;rw[ht]at hn ⊢;exact qeo hn
  have:=qwg f ho (c:=0) (by rw[ht];exact zg5 ..) (by rw[hc,hz])
  omega
 have hblk:=qjb f ho;have hor:=(qbh f).1 _ ho;have hps:∀v∈(f.blk e.block.toNat).params,v∈qa1 f (Sp.order f):=fun v hv'=>zir.2 ⟨e.block,ho,zho _ hv'⟩;have hp:((Sp.canon f).blk (beta f e.block).toNat).params=(f.blk e.block.toNat).params.map (Sp.ren f):=by
  show((Sp.canon f).blocks.getD (beta f e.block).toNat Block.z).params=_;rw[hblk];rfl
 unfold Sp.qc8 at h ⊢;simp only[zgz,zhn,decide_eq_false_iff_not,decide_eq_true_eq,zhm,zif,hp,zha]at h ⊢;obtain⟨⟨⟨a1,a2⟩,a3⟩,a4,a5⟩:=h;refine⟨⟨⟨by omega,by omega⟩,qhg hv hk hs ha⟩,a4,fun i hi=>?_⟩;have:=a5 i hi;unfold Sp.qsg at this ⊢;simp only[zgz,decide_eq_true_eq]at this ⊢;obtain⟨p1,p2⟩:=qps f (f.blk e.block.toNat).params hi;obtain⟨q1,q2⟩:=qps f e.args (i:=i) (by omega);rw[p1,q1];have c1:=qd5 f hv (hps _ p2);have c2:=qd5 f hv (hs _ (ha _ q2));exact⟨within_iff.2 c1.2,by rw[c1.1,c2.1];exact this.2⟩
theorem qws{f:Fn}(hv:VOk f)(h0:0<f.blocks.length){k k0:List Bool}{ks:List Int}(hk:KT f k ks)(hs:∀v∈ks,v∈qa1 f (Sp.order f)){t:Term}(hc:t.cond=-1\/t.cond∈ks)(hr:∀v∈t.qa4,v∈ks)(ha:∀e∈t.to,∀v∈e.args,v∈ks)(ho:∀e∈t.to,e.block∈Sp.order f)(h:Sp.qdl f t k0=true) :
  Sp.qdl (Sp.canon f) ⟨t.kind,if t.cond=-1 then -1 else Sp.ren f t.cond,t.to.map (fun e=>⟨beta f e.block,e.args.map (Sp.ren f)⟩),t.qa4.map (Sp.ren f)⟩ k=true:=by
 unfold Sp.qdl at h ⊢;simp only[zgz,zh0,decide_eq_true_eq,zhm,zha]at h ⊢;obtain⟨⟨⟨a1,a2,a3⟩,a4⟩,a5⟩:=h;refine⟨⟨⟨?_,a2,a3⟩,?_⟩,fun e he=>?_⟩
 ·unfold Sp.kindOk at a1 ⊢;simp only[zha];split
  ·rfl
  ·rename_i h12;rw[if_neg h12]at a1;split
   ·rename_i h3;rw[if_pos h3]at a1;simp only[zgz,decide_eq_true_eq,zhm,zif]at a1 ⊢;refine⟨⟨a1.1.1,qhg hv hk hs hr⟩,fun i hi=>?_⟩;have:=a1.2 i hi;unfold Sp.zbt at this ⊢;obtain⟨p1,p2⟩:=qps f t.qa4 hi;rw[p1];refine decide_eq_true ?_;rw[(qd5 f hv (hs _ (hr _ p2))).1];exact of_decide_eq_true this
   ·rename_i h3;rw[if_neg h3]at a1;cases a1
 ·unfold Sp.qo0 at a4 ⊢;simp only;by_cases h2:t.kind=2
  ·rw[if_pos h2]at a4 ⊢;simp only[zgz,decide_eq_true_eq]at a4 ⊢;have hw:0<=t.cond:=by
    have:=a4.1;simp only[Sp.used,List.all_cons,List.all_nil,ziq,zgz]at this;exact(within_iff.1 this.1).1
   have hm:=hc.resolve_left (by omega);rw[if_neg (by omega)];refine⟨qhg hv hk hs (l:=[t.cond]) (fun v hv'=>by rw[zh7.1 hv'];exact hm),?_⟩
   rw[(qd5 f hv (hs _ hm)).1];exact a4.2
  ·rw[if_neg h2]at a4 ⊢;have:=of_decide_eq_true a4;rw[if_pos this];rfl
 ·obtain⟨e1,he1,rfl⟩:=zhk.1 he;exact qxi hv h0 hk hs (ho e1 he1) (ha e1 he1) (a5 e1 he1)
end
end Go.Abs
namespace Go.Abs
open Go Go.Proofs
noncomputable section
theorem q7z{f:Fn}(hv:VOk f){u v:Int}(hu:u∈qa1 f (Sp.order f))(hm:v∈qa1 f (Sp.order f))(h:(Sp.ren f u).toNat=(Sp.ren f v).toNat):u=v:=by
 obtain⟨i,h1,h2,h3⟩:=qdq hv.nd hu;obtain⟨j,g1,g2,g3⟩:=qdq hv.nd hm;unfold Sp.ren at h;rw[h3,g3]at h;have:i=j:=by omega
 subst this;rw[<- h2,<- g2]
def DL(f:Fn)(P:List Int)(d:List Bool):Prop:=d.length=(Sp.canon f).qab.length/\∀v∈qa1 f (Sp.order f),d.getD (Sp.ren f v).toNat false=true->v∈P
def KL(f:Fn)(ks:List Int)(k:List Bool):Prop:=k.length=(Sp.canon f).qab.length/\KT f k ks
theorem DL.set{f:Fn}(hv:VOk f){P:List Int}{d:List Bool}(h:DL f P d){v:Int}(hm:v∈qa1 f (Sp.order f)):DL f (P++[v]) (d.set (Sp.ren f v).toNat true):=by
 refine⟨by simp[h.1],fun u hu hk=>?_⟩;rcases getD_set_true hk with e|e
 ·rw[q7z hv hu hm e];simp
 ·exact zho _ (h.2 u hu e)
theorem KL.set{f:Fn}(hv:VOk f){ks:List Int}{k:List Bool}(h:KL f ks k){v:Int}(hm:v∈qa1 f (Sp.order f)):KL f (ks++[v]) (k.set (Sp.ren f v).toNat true):=by
 refine⟨by simp[h.1],fun u hu=>?_⟩;have hr:=(qd5 f hv hm).2;rw[zg0,List.getElem?_set];by_cases e:(Sp.ren f v).toNat=(Sp.ren f u).toNat
 ·rw[if_pos e,if_pos (by rw[h.1];omega)];rfl
 ·rw[if_neg e,<- zg0];rcases zhj.1 hu with hu|hu
  ·exact h.2 u hu
  ·rw[zh7.1 hu]at e;exact absurd rfl e
theorem DL.no{f:Fn}{P:List Int}{d:List Bool}(h:DL f P d){v:Int}(hm:v∈qa1 f (Sp.order f))(hp:v∉P):d.getD (Sp.ren f v).toNat false=false:=by
 cases hx:d.getD (Sp.ren f v).toNat false with
 |false=>rfl
 |true=>exact absurd (h.2 v hm hx) hp
theorem qog{f:Fn}(hv:VOk f):∀(l P ks:List Int) (s:DK),DL f P s.1->KL f ks s.2->(∀v∈l,v∈qa1 f (Sp.order f))->(P++l).Nodup->∃s',qdg (Sp.qdf (Sp.canon f)) (l.map (Sp.ren f)) s=some s'/\DL f (P++l) s'.1/\KL f (ks++l) s'.2
 |[],P,ks,s,hd,hk,_,_=>⟨s,rfl,by simpa using hd,by simpa using hk⟩
 |v::l,P,ks,s,hd,hk,hl,hn=>by
  have hm:=hl v (zg5 ..);have hp:v∉P:=fun h=>(zhq.1 hn).2.2 v h v (zg5 ..) rfl;have e2:P++[v]++l=P++v::l:=by simp
  have e3:ks++[v]++l=ks++v::l:=by simp
  obtain⟨s',k1,k2,k3⟩:=qog hv l (P++[v]) (ks++[v]) (s.1.set (Sp.ren f v).toNat true,s.2.set (Sp.ren f v).toNat true) (hd.set hv hm) (hk.set hv hm) (fun u hu=>hl u (zg8 _ hu)) (by rw[e2];exact hn)
  rw[e2]at k2;rw[e3]at k3;refine⟨s',?_,k2,k3⟩;rw[zhg];simp only[qdg];have:Sp.qdf (Sp.canon f) s (Sp.ren f v)=some (s.1.set (Sp.ren f v).toNat true,s.2.set (Sp.ren f v).toNat true):=by
   unfold Sp.qdf;rw[if_pos ⟨within_iff.2 (qd5 f hv hm).2,hd.no hm hp⟩]
  rw[this];exact k1
structure zf8(f:Fn)(x:qau):Prop where
 ar:Sp.arity x.op=x.args.length
 ok:Sp.qd3 f x=true
 nm:Sp.named x.op=Sp.result x.op
 no:Sp.named x.op=false->x.dest=-1
theorem qjz{f:Fn}(hv:VOk f):∀(l:List qau) (P ks:List Int) (s:DK),DL f P s.1->KL f ks s.2->qq2 l ks->(∀v∈ks,v∈qa1 f (Sp.order f))->(∀v∈dl l,v∈qa1 f (Sp.order f))->(P++dl l).Nodup->(∀x∈l,zf8 f x) ->
  ∃s',qdg (Sp.qcl (Sp.canon f)) (l.map (reI (Sp.ren f))) s=some s'/\DL f (P++dl l) s'.1/\KL f (ks++dl l) s'.2
 |[],P,ks,s,hd,hk,_,_,_,_,_=>⟨s,rfl,by simpa[dl]using hd,by simpa[dl]using hk⟩
 |x::l,P,ks,s,hd,hk,hu,hs,hl,hn,hg=>by
  obtain⟨u1,u2⟩:=hu;have gx:=hg x (zg5 ..);have hgl:∀y∈l,zf8 f y:=fun y hy=>hg y (zg8 _ hy);have hus:=qhg hv hk.2 hs u1;have har:Sp.arity (reI (Sp.ren f) x).op=(reI (Sp.ren f) x).args.length:=by
   show Sp.arity x.op=((x.args.map (Sp.ren f)).length:Int)
   rw[zha];exact gx.ar
  rw[zhg];simp only[qdg];cases hx:Sp.named x.op with
  |true=>
   have hr:Sp.result x.op=true:=by rw[<- gx.nm];exact hx
   rw[qe4 hx]at hl hn ⊢;rw[if_pos hx]at u2;have hm:=hl x.dest (zg5 ..);have hp:x.dest∉P:=fun h=>(zhq.1 hn).2.2 _ h _ (zg5 ..) rfl;have e2:P++[x.dest]++dl l=P++x.dest::dl l:=by simp
   have e3:ks++[x.dest]++dl l=ks++x.dest::dl l:=by simp
   have ed:(reI (Sp.ren f) x).dest=Sp.ren f x.dest:=if_pos hx;obtain⟨s',k1,k2,k3⟩:=qjz hv l (P++[x.dest]) (ks++[x.dest]) (s.1.set (Sp.ren f x.dest).toNat true,s.2.set (Sp.ren f x.dest).toNat true) (hd.set hv hm) (hk.set hv hm) u2 (fun v hv'=>by
    rcases zhj.1 hv' with h|h
    ·exact hs v h
    ·rw[zh7.1 h];exact hm) (fun v hv'=>hl v (zg8 _ hv')) (by rw[e2];exact hn) hgl
   rw[e2]at k2;rw[e3]at k3;refine⟨s',?_,k2,k3⟩;have:Sp.qcl (Sp.canon f) s (reI (Sp.ren f) x)=some (s.1.set (Sp.ren f x.dest).toNat true,s.2.set (Sp.ren f x.dest).toNat true):=by
    unfold Sp.qcl;have hd2:Sp.qf4 (Sp.canon f) s.1 (reI (Sp.ren f) x)=true:=by
     unfold Sp.qf4;rw[if_pos (show Sp.result (reI (Sp.ren f) x).op=true from hr),ed,within_iff.2 (qd5 f hv hm).2,hd.no hm hp];rfl
    rw[if_pos ⟨har,hus,hd2,by rw[qmp f hv x (fun v hv'=>hs v (u1 v hv')) gx.nm (fun _=>hm)];exact gx.ok⟩]
    unfold Sp.mark;rw[if_pos (show Sp.result (reI (Sp.ren f) x).op=true from hr),ed]
   rw[this];exact k1
  |false=>
   have hr:Sp.result x.op=false:=by rw[<- gx.nm];exact hx
   rw[qe5 hx]at hl hn ⊢;rw[if_neg (by simp[hx])]at u2;have ed:(reI (Sp.ren f) x).dest=-1:=by
    show(if Sp.named x.op=true then _ else x.dest)=-1;rw[if_neg (by simp[hx])];exact gx.no hx
   obtain⟨s',k1,k2,k3⟩:=qjz hv l P ks s hd hk u2 hs hl hn hgl;refine⟨s',?_,k2,k3⟩;have:Sp.qcl (Sp.canon f) s (reI (Sp.ren f) x)=some s:=by
    unfold Sp.qcl;have hd2:Sp.qf4 (Sp.canon f) s.1 (reI (Sp.ren f) x)=true:=by
     unfold Sp.qf4;rw[if_neg (by rw[show(reI (Sp.ren f) x).op=x.op from rfl,hr];simp),ed]
     rfl
    rw[if_pos ⟨har,hus,hd2,by rw[qmp f hv x (fun v hv'=>hs v (u1 v hv')) gx.nm (fun h=>by rw[hx]at h;cases h)];exact gx.ok⟩]
    unfold Sp.mark;rw[if_neg (by rw[show(reI (Sp.ren f) x).op=x.op from rfl,hr];simp)]
   rw[this];exact k1
end
end Go.Abs
namespace Go.Abs
open Go Go.Proofs
noncomputable section
theorem q2a{f:Fn}(hv:VOk f)(h0:0<f.blocks.length){b:Int}(hb:b∈Sp.order f){d0 d0':List Bool}(h:Sp.qcp f d0 (f.blocks.getD b.toNat Block.z)=some d0')(P:List Int)(d:List Bool)(hd:DL f P d)(hn:(P++Sp.qcb (f.blocks.getD b.toNat Block.z)).Nodup) :
  ∃d',Sp.qcp (Sp.canon f) d (Sp.reG f (reB (Sp.ren f) (f.blocks.getD b.toNat Block.z)))=some d'/\DL f (P++Sp.qcb (f.blocks.getD b.toNat Block.z)) d':=by
 have hr:=(qbh f).1 b hb;have hD:∀v∈Sp.qcb (f.blocks.getD b.toNat Block.z),v∈qa1 f (Sp.order f):=fun v hv'=>zir.2 ⟨b,hb,hv'⟩;have hu:=hv.use b.toNat (by omega);have hto:∀e∈(f.blocks.getD b.toNat Block.z).term.to,e.block∈Sp.order f:=fun e he=>by
  have:=hv.es b.toNat (by omega) e he;exact qd7 f (b:=b.toNat) (by rw[ziu hr.1];exact hb) he this.1 this.2
 generalize f.blocks.getD b.toNat Block.z=B at h hn hD hu hto ⊢;simp only[Sp.qcp]at h;split at h
 ·rename_i hl;split at h
  ·rename_i s1 h1;split at h
   ·rename_i s2 h2;split at h
    ·rename_i ht;have ea:P++Sp.qcb B=P++B.params++dl B.insts:=by rw[qgi];simp
     rw[ea]at hn;have k0:KL f [] (List.replicate (Sp.canon f).qab.length false):=⟨by simp,fun v hv'=>by cases hv'⟩
     obtain⟨t1,p1,p2,p3⟩:=qog hv B.params P [] (d,List.replicate (Sp.canon f).qab.length false) hd k0 (fun v hv'=>hD v (zho _ hv')) (zhq.1 hn).1;obtain⟨t2,q1,q2,q3⟩:=qjz hv B.insts (P++B.params) ([]++B.params) t1 p2 p3 (by simpa using hu.is) (fun v hv'=>hD v (zho _ (by simpa using hv'))) (fun v hv'=>hD v (zh1 _ hv')) hn (fun x hx=>by
      obtain⟨u1,u2,hx2⟩:=qe3 _ _ _ h2 x hx;have hnm:=qen hx2;unfold Sp.qcl at hx2;split at hx2
      ·rename_i hc;exact⟨hc.1,hc.2.2.2,hnm.1,hnm.2⟩
      ·cases hx2)
     have q3':KL f (Sp.qcb B) t2.2:=by rw[qgi];simpa using q3
     have tc:=qws hv h0 q3'.2 hD (t:=B.term) hu.cd hu.rs hu.es hto ht;refine⟨t2.1,?_,by rw[ea];exact q2⟩
     unfold Sp.qcp;have hl2:Sp.q0l (Sp.reG f (reB (Sp.ren f) B))=true:=by
      unfold Sp.q0l at hl ⊢;simpa[Sp.reG,reB]using hl
     rw[if_pos hl2,show(Sp.reG f (reB (Sp.ren f) B)).params=B.params.map (Sp.ren f)from rfl,p1];simp only;rw[show(Sp.reG f (reB (Sp.ren f) B)).insts=B.insts.map (reI (Sp.ren f))from rfl,q1];simp only;have et:(Sp.reG f (reB (Sp.ren f) B)).term=⟨B.term.kind,if B.term.cond=-1 then -1 else Sp.ren f B.term.cond,B.term.to.map (fun e=>⟨beta f e.block,e.args.map (Sp.ren f)⟩),B.term.qa4.map (Sp.ren f)⟩:=by
      simp[Sp.reG,reB,reE,beta,Function.comp]
     rw[et,if_pos tc]
    ·cases h
   ·cases h
  ·cases h
 ·cases h
theorem qs2(f:Fn)(h:Sp.valid f=true):Sp.valid (Sp.canon f)=true:=by
 have hv:=qgx h;have h0:=(qhf h).2.2.1;have key:∀(l P:List Int) (d:List Bool),(∀b∈l,b∈Sp.order f)->DL f P d->(P++qa1 f l).Nodup->∃d',qdg (Sp.qcp (Sp.canon f)) (l.map fun b=>Sp.reG f (reB (Sp.ren f) (f.blocks.getD b.toNat Block.z))) d=some d':=by
  intro l
  induction l with
  |nil=>intro P d _ _ _;exact⟨d,rfl⟩
  |cons b l ih=>
   intro P d hl hd hn;have hb:=hl b (zg5 ..);have hr:=(qbh f).1 b hb;obtain⟨d0,d0',hblk⟩:=qlj h _ (qdw (f:=f) (i:=b.toNat) (by omega));have e1:P++qa1 f (b::l)=P++Sp.qcb (f.blocks.getD b.toNat Block.z)++qa1 f l:=by simp[qa1]
   rw[e1]at hn;obtain⟨d1,k1,k2⟩:=q2a hv h0 hb hblk P d hd (zhq.1 hn).1;obtain⟨d2,k3⟩:=ih _ d1 (fun c hc=>hl c (zg8 _ hc)) k2 hn;refine⟨d2,?_⟩;rw[zhg];simp only[qdg];rw[k1];exact k3
 obtain⟨d',hd'⟩:=key (Sp.order f) [] (List.replicate (Sp.canon f).qab.length false) (fun b hb=>hb) ⟨by simp,fun v _ hk=>by
  rw[zg0,List.getElem?_replicate]at hk;split at hk<;>cases hk⟩ (by simpa using hv.nd)
 unfold Sp.valid;rw[qxl h,zip];rw[show(Sp.canon f).blocks=(Sp.order f).map fun b=>Sp.reG f (reB (Sp.ren f) (f.blocks.getD b.toNat Block.z))from rfl,hd'];rfl
theorem ok7(f:Fn)(hf:f.ok):go7 f=some (true,()):=ok7_of (fun f _ h=>qs2 f h) f hf
def c7:Ctr Try.prog:=qcn 7 Try.f7 Try.func7 [c12,c17,c18,c24,c26,c27] ann7 [(0,(.st 6))] [] .b [] (fun x _=>grd (okB x.1.ok) (some (true,()))) (fun x _ r h=>FO (run7 x.1) (ok7 x.1) h)
theorem irRenumber_pc(f:Fn)(hf:f.ok):PC Try.prog 7 [f.v] (.t (.bool true)):=by
 have h:=Ctr.pc (c:=c7) (us:=[.st 6 f]) (z:=⟨[],(f,()),()⟩) rfl rfl (res:=(true,())) (qas hf);simp only[zhg,zik,toV,mkE]at h;exact h
end
end Go.Abs
