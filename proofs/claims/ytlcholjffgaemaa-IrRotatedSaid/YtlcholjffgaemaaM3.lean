/-
Texts of the proof, part 3: G9 K1 G10 H1 H2 H3 H4 H5 H6 K2 J1.
No statement of the program is proved here.
-/
import Derived.Test.YtlcholjffgaemaaM2
import Derived.Laws.StructEq
import Derived.Laws.Slices
import Derived.MapKept
set_option linter.unusedVariables false
set_option linter.unusedSimpArgs false
set_option linter.unusedSectionVars false
namespace Go.Abs
open Go
noncomputable section
variable {P:Program} {d:Option Tmp} {ty:TypeId} {L:List GOp} {ρ:Type}
section
variable [SU] [qa3] {Q:Exit->ESt->Prop}
def q6h(k:Nat)(U:Ty)(l:List U.D):Nat->List Nat->Option EV:=fun id p=>bif Nat.beq id k then(match p with
 |[]=>some (.fz U l)
 | _::_=>some .un)else none
def qad.frz(H:qad)(k:Nat)(v:LV):qad:={ H with obj:=fun j=>bif Nat.beq j k then .dead else qbv (q6h k v.U v.l) (H.obj j) }
def ESt.frz(s:ESt)(k:Nat)(v:LV):ESt:={ s with env:=fun t=>qbb (q6h k v.U v.l) (s.env t),heap:=s.heap.frz k v }
theorem qbz.frz{s:ESt}{k:Nat}{v:LV}(ho:s.heap.obj k=.lst v)(hflat:qkb v.U=true):qbz s (s.frz k v):=qgy.fair fun hf=>by
 let m:Id->Option Id:=fun i=>if i.k=k then none else some i
 let Z:Id->Prop:=fun i=>i=⟨k,[]⟩
 let H':=s.heap.frz k v
 have hat:s.heap.at k []=some v:=by simp only[qad.at,ho,LV.qa8]
 have hlive:=qb2 hat;have hobj:∀j,j≠k->H'.obj j=qbv (q6h k v.U v.l) (s.heap.obj j):=fun j h=>by simp only[H',qad.frz,qav h,cond_false]
 have hne:∀id p,q6h k v.U v.l id p=none->id≠k:=fun id p h e=>by
  subst e;simp only[q6h,zjg,cond_true]at h;cases p<;>cases h
 have hdead:∀p,(toH H').slot ⟨k,p⟩=.dead:=fun p=>by
  show(H'.obj k).slot _ _ _=_;simp only[H',qad.frz,zjg,cond_true];rfl
 have hk:qbk (q6h k v.U v.l) s.heap (toH s.heap) H' m Z:=⟨fun id p u h=>by
   by_cases e:id=k
   ·subst e;simp only[q6h,zjg,cond_true]at h;cases p with
    |cons x y=>injection h with h;subst h;simp only[toV];exact KG.un
    |nil=>
     injection h with h;subst h;simp only[toV,qad.qf0 hat]
     rintro E M F w c rr ⟨h0,h1⟩
     rw[hlive]at h1;obtain⟨hn,A,cap,g1,g2,g3⟩:=h1.2 rfl;obtain⟨o1,o2⟩:=rr.obj _ _ hlive;refine⟨A,cap,g1,g2,o1,fun hpos=>?_⟩;obtain⟨b,cur,p1,p2,p3,p4⟩:=g3 (by omega);rw[p1]at o2;obtain⟨cur',q1,q2,q3⟩:=o2;rw[p3]at q1;injection q1 with q1;injection q1 with q1;subst q1;refine⟨b,0,by rw[p2,Nat.zero_mul],.inr ⟨⟨id,[]⟩,rfl,by rw[hlive];trivial,p1⟩,fun i hi j hj=>?_⟩
     obtain⟨c',r1,r2,r3⟩:=q3 i hi j hj;refine⟨c',?_,?_⟩
     ·rw[zjf];simp[World.cell?,p3];exact r1
     ·obtain⟨u,e1,e2⟩:=qd3 v.U (v.row i) j hflat;have r3:qa0 (toH s.heap) M F w (qbg s.heap.len id [] i j (qao v.U (v.row i) j)) c':=r3;rw[e1]at r3;simp only[qbg]at r3;rw[e2 hj]at r3;exact Reads.mono (fun b hb=>.inl hb) (fun _ _=>rfl) _ _ r3
   ·simp only[q6h,qav e,cond_false]at h;exact(nomatch h),
  fun id p h hb=>by
   have e:=hne id p h;refine .inr ⟨?_,by simp only[m,if_neg e]⟩;show qa1 _ ((H'.obj id).slot H'.len id p);rw[hobj id e];exact qb9 hb,
  fun id p h hb=>qad.qdx (hobj id (hne id p h)) p⟩
 have gen:Gen (toH s.heap) (toH H') m Z:=by
  refine Gen.qbb (fun j=>j=k) hk hf.obj (fun j hj=>⟨fun p=>by simp only[q6h,qav hj,cond_false],hobj j hj,fun p=>by simp only[m,if_neg hj],fun p h=>hj (by injection h),fun p=>rfl⟩)
   (fun i hi o' ho'=>?_) (fun i hi sb g' hm=>?_) (fun i j x hi h1' h2' e1 e2=>?_) rfl (fun i hi=>?_) (fun i hi hil hip=>?_)
  ·obtain⟨j,p⟩:=i;simp only at hi;subst hi;rw[hdead]at ho';cases ho'
  ·obtain⟨j,p⟩:=i;simp only at hi;subst hi;rw[hdead]at hm;cases hm
  ·simp only[m,if_pos hi]at e1;cases e1
  ·by_cases hik:i.k=k
   ·exfalso;have hi:s.heap.next<=i.k:=hi;have:=hf.next ⟨k,[]⟩ (by rw[<- hik];exact hi)
    rw[hlive]at this;cases this
   ·show(H'.obj i.k).slot _ _ _=_;rw[hobj _ hik];exact qcs.2 (hf.next i hi)
  ·obtain⟨j,p⟩:=i;simp only at hi;subst hi;exact .inr (.inl (hdead p))
 refine qgy.gen m Z rfl gen (fun t=>qbk.keeps hk _ (hf.env t))
def qp1:EV->List Nat
 |.qa7 k []=>[k]
 |.agg l=>l.filterMap fun u=>match u with
  |.qa7 k []=>some k
  |_=>none
 |_=>[]
def qic(s:ESt)(K:ESt->Option ρ):List Nat->Option ρ
 |[]=>K s
 |k::ks=>match s.heap.obj k with
  |.lst v=>bif qkb v.U then qic (s.frz k v) K ks else none
  |_=>qic s K ks
theorem qdu{K:ESt->Option ρ}{res:ρ}:∀(ks:List Nat) (s:ESt),qic s K ks=some res->∃s',qbz s s'/\K s'=some res
 |[],s,h=>⟨s,qbz.refl s,h⟩
 |k::ks,s,h=>by
  unfold qic at h;split at h
  ·rename_i v ho;obtain⟨h1,h⟩:=qah h;obtain⟨s',q1,q2⟩:=qdu ks _ h;exact⟨s',(qbz.frz ho h1).trans q1,q2⟩
  ·exact qdu ks _ h
def qte:List EV->Nat->EV->List EV
 |[],_,_=>[]
 |_::l,0,v=>v::l
 |a::l,n+1,v=>a::qte l n v
theorem qht:∀(l:List EV) (c:Nat) (v:EV),(qte l c v).length=l.length
 |[],c,v=>rfl
 |a::l,0,v=>rfl
 |a::l,n+1,v=>by simp[qte,qht l n v]
theorem ql6(len:Len):∀(l:List EV) (c:Nat) (v:EV) (j:Nat),j<l.length->qa4 len (qte l c v) j=if j=c then toV len v else qa4 len l j
 |[],c,v,j,h=>absurd h (zjj _)
 |a::l,0,v,0,h=>by simp[qte,qa4]
 |a::l,0,v,j+1,h=>by simp[qte,qa4]
 |a::l,n+1,v,0,h=>by simp[qte,qa4]
 |a::l,n+1,v,j+1,h=>by
  simp only[qte,qa4];rw[ql6 len l n v j (by simpa using h)];simp
def qn0:List EV->Nat->List EV->List EV
 |l,_,[]=>l
 |l,c,v::m=>qn0 (qte l c v) (c+1) m
theorem ql4:∀(m l:List EV) (c:Nat),(qn0 l c m).length=l.length
 |[],l,c=>rfl
 |v::m,l,c=>by simp only[qn0];rw[ql4 m,qht]
theorem qpr(len:Len):∀(m l:List EV) (c:Nat) (j:Nat),j<l.length->qa4 len (qn0 l c m) j=if c<=j/\j<c+m.length then qa4 len m (j-c)else qa4 len l j
 |[],l,c,j,h=>by rw[if_neg (by simp only[zi9,zji];omega)];rfl
 |v::m,l,c,j,h=>by
  simp only[qn0];rw[qpr len m _ (c+1) j (by rw[qht];exact h),ql6 len l c v j h]
  by_cases h2:c+1<=j/\j<c+1+m.length
  ·rw[if_pos h2,if_pos (by simp only[zi9,zji];omega)]
   have e:j-c=(j-(c+1))+1:=by omega
   rw[e];simp only[qa4]
  ·rw[if_neg h2];by_cases h3:j=c
   ·rw[if_pos h3,if_pos (by simp only[zi9,zji];omega)]
    have e:j-c=0:=by omega
    rw[e];simp only[qa4]
   ·rw[if_neg h3,if_neg (by simp only[zi9,zji];omega)]
theorem quz{a b c d:Nat}{x y:V}:(bif Nat.beq a b&&Nat.beq c d then x else y)=if a=b/\c=d then x else y:=by
 by_cases h1:a=b
 ·subst h1;by_cases h2:c=d
  ·subst h2;simp
  ·rw[qav h2,if_neg (fun e=>h2 e.2)];simp
 ·rw[qav h1,if_neg (fun e=>h1 e.1)];simp
theorem q8l{i r c j n:Nat}{x y:V}:(bif Nat.beq i r&&(Nat.ble c j&&Nat.blt j (c+n))then x else y)=if i=r/\c<=j/\j<c+n then x else y:=by
 by_cases h1:i=r
 ·subst h1;by_cases h2:c<=j
  ·by_cases h3:j<c+n
   ·rw[Nat.ble_eq_true_of_le h2,qdr h3,if_pos ⟨rfl,h2,h3⟩];simp
   ·rw[qd5 (zj9 h3),if_neg (fun e=>h3 e.2.2)];simp
  ·have:Nat.ble c j=false:=by
    cases hb:Nat.ble c j with
    |false=>rfl
    |true=>exact absurd (zi8 hb) h2
   rw[this,if_neg (fun e=>h2 e.2.1)];simp
 ·rw[qav h1,if_neg (fun e=>h1 e.1)];simp
inductive qkw(s:ESt)(id:Nat)(e:TypeId)(m:List EV):Prop where
 |cells (ho:s.heap.obj id=.cells e m)
 |box {U:Ty} {x:U.D} (ho:s.heap.obj id=.lst ⟨e,U,[x]⟩) (hf:qkb U=true) (hm:m=qdc id [] U x 0 0 U.sz)
theorem qkw.slot{s:ESt}{id:Nat}{e:TypeId}{m:List EV}(h:qkw s id e m):∃o,(toH s.heap).slot ⟨id,[]⟩=.live o/\o.ver=0/\o.elem=e/\o.sz=m.length/\o.n=1/\(∀c,c<m.length->o.get 0 c=qa4 s.heap.len m c)/\∀p,p≠[]->(toH s.heap).slot ⟨id,p⟩=.qae:=by
 cases h with
 |cells ho=>
  refine⟨_,qdh ho,rfl,rfl,rfl,rfl,fun c hc=>rfl,fun p hp=>?_⟩;show(s.heap.obj id).slot _ _ _=_
  rw[ho];cases p<;>first|exact absurd rfl hp|rfl
 |@box U x ho hf hm=>
  have hat:s.heap.at id []=some ⟨e,U,[x]⟩:=by simp only[qad.at,ho,LV.qa8]
  refine⟨_,qb2 hat,rfl,rfl,by rw[hm,qby];rfl,rfl,fun c hc=>?_,fun p hp=>?_⟩
  ·rw[hm,qby]at hc;rw[hm,qd2 _ _ _ _ _ _ _ _ _ hc,zjf];exact(qnm (v:=⟨e,U,[x]⟩) hat 0 c).symm
  ·show(s.heap.obj id).slot _ _ _=_;rw[ho];exact OD.qjj (o:=.lst ⟨e,U,[x]⟩) hf p hp
theorem qof{s:ESt}{id:Nat}{e:TypeId}{m m':List EV}{o1:qc1}(hf:Fair s)(hc:qkw s id e m)(hl:m'.length=m.length)(hb:∀j,j<m'.length->qfs (toH s.heap) (qa4 s.heap.len m' j))
  (h1:o1.ver=0) (h2:o1.elem=e) (h3:o1.sz=m.length) (h4:o1.n=1) (h5:∀j,j<m.length->Wk (o1.get 0 j) (qa4 s.heap.len m' j)) (d:Option Tmp) :
  qgy (((qbf s).on ((qbf s).heap.set ⟨id,[]⟩ o1)).put d .un) (qbf ((s.on (s.heap.set id (.cells e m'))).put d .un)):=by
 obtain⟨o,q1,q2,q3,q4,q5,q6,q7⟩:=hc.slot;have hlen:∀j p,(s.heap.set id (.cells e m')).len j p=s.heap.len j p:=fun j p=>by
  by_cases hj:j=id
  ·subst hj;unfold qad.len;simp only[qad.set,zjg,cond_true];cases hc with
   |cells ho=>rw[ho];cases p<;>rfl
   |box ho hf hm=>
    rw[ho];cases p with
    |nil=>simp only[OD.len,LV.qa8];rfl
    |cons x y=>simp only[OD.len,LV.qu0 (v:=⟨e,_,_⟩) hf (x::y) (by simp)]
  ·exact qad.qhg (qad.qi2 hj) p
 have hs1:∀i:Id,((qbf s).heap.set ⟨id,[]⟩ o1).slot i=if i=⟨id,[]⟩then .live o1 else(toH s.heap).slot i:=fun i=>by
  show(bif Id.beq i ⟨id,[]⟩then _ else _)=_;exact qeh _ _ _ _
 have hsn:∀p,(toH (s.heap.set id (.cells e m'))).slot ⟨id,p⟩=(OD.cells e m').slot (s.heap.set id (.cells e m')).len id p:=fun p=>by
  show((s.heap.set id (.cells e m')).obj id).slot _ _ _=_;simp only[qad.set,zjg,cond_true]
 refine qg1 hf id (fun k' hk=>qad.qi2 hk) (fun j q _=>hlen j q) (fun i hi=>by rw[hs1,if_neg (fun e=>hi (by rw[e]))]) rfl (fun hn i hi=>?_) (fun p hne=>?_) (fun p o' hl'=>?_) (fun p sb g' hl'=>?_) d (fun _=>by simp only[toV];exact Wk.refl _)
 ·by_cases hi2:i.k=id
  ·obtain⟨j,p⟩:=i;simp only at hi2;subst hi2;have:=hn ⟨j,p⟩ hi;rw[hs1]at this;rw[hsn];split at this
   ·cases this
   ·rename_i hne;cases p with
    |nil=>exact absurd rfl hne
    |cons x y=>rfl
  ·have:=hf.next i hi;have h':(s.heap.obj i.k).slot s.heap.len i.k i.p=.qae:=this;show((s.heap.set id (.cells e m')).obj i.k).slot _ _ _=.qae;rw[qad.qi2 hi2];exact(qft (len:=s.heap.len)).2.2 h'
 ·rw[hs1]at hne ⊢;rw[hsn];by_cases hp:p=[]
  ·subst hp;rw[if_pos rfl];exact⟨h1.symm,h2.symm,by rw[h3];exact hl,h4.symm⟩
  ·rw[if_neg (fun e=>hp (by injection e))]at hne;exact absurd (q7 p hp) hne
 ·rw[hsn]at hl';rw[hs1];cases p with
  |cons x y=>cases hl'
  |nil=>
   injection hl' with hl';subst hl';refine⟨o1,if_pos rfl,fun r hr c hc=>?_⟩;obtain rfl:r=0:=by omega
   show Wk (o1.get 0 c) (qa4 _ m' c);rw[qgb (H:=toH s.heap) (fun j p _=>hlen j p) m' hb];exact h5 c (by omega)
 ·rw[hsn]at hl';cases p<;>cases hl'
end
end
end Go.Abs
namespace Go.Abs
open Go
noncomputable section
variable {P:Program} {d:Option Tmp} {ty:TypeId} {L:List GOp} {ρ:Type}
section
variable [SU] [qa3] {Q:Exit->ESt->Prop}
theorem LV.qgo:∀(p:List Nat) (v a:LV),v.at p=some a->p.length % 2=0
 |[],_,_,_=>rfl
 |[x],v,a,h=>by rw[LV.qfi]at h;cases h
 |c::r::p,v,a,h=>by
  rw[LV.qbr]at h;cases hk:v.kid c r with
  |none=>rw[hk]at h;cases h
  |some k=>
   rw[hk]at h;have:=LV.qgo p k a h;simp only[zi9];omega
def qyh(id k n:Nat):Nat->List Nat->Option EV:=fun j q=>bif Nat.beq j k then some .un else bif Nat.beq j id&&Nat.ble n q.length then some .un else none
theorem qnu{id k n j:Nat}{q:List Nat}(h:qyh id k n j q=none):j≠k/\¬ (j=id/\n<=q.length):=by
 unfold qyh at h;cases e1:Nat.beq j k with
 |true=>rw[e1]at h;cases h
 |false=>
  rw[e1]at h;simp only[cond_false]at h;refine⟨fun e=>by subst e;simp at e1,fun⟨e2,e3⟩=>?_⟩
  subst e2;rw[zjg,Nat.ble_eq_true_of_le e3]at h;cases h
theorem qnt{id k n j:Nat}{q:List Nat}{u:EV}(h:qyh id k n j q=some u):u=.un:=by
 unfold qyh at h;cases e1:Nat.beq j k with
 |true=>rw[e1]at h;injection h with h;exact h.symm
 |false=>
  rw[e1]at h;simp only[cond_false]at h;cases e2:Nat.beq j id&&Nat.ble n q.length with
  |true=>rw[e2]at h;injection h with h;exact h.symm
  |false=>rw[e2]at h;cases h
theorem qh4{id k n j:Nat}{q:List Nat}(h1:j≠k)(h2:j=id->q.length<n):qyh id k n j q=none:=by
 unfold qyh;rw[qav h1,cond_false];by_cases e:j=id
 ·have:Nat.ble n q.length=false:=by
   cases hb:Nat.ble n q.length with
   |false=>rfl
   |true=>have:=zi8 hb;have:=h2 e;omega
  rw[this,Bool.and_false,cond_false]
 ·rw[qav e,Bool.false_and,cond_false]
def q3y(id k:Nat)(P:List Nat):Id->Option Id:=fun i=>if i.k=id then(if P <+: i.p then some ⟨k,i.p.drop P.length⟩else some i)else if i.k=k then none else some i
def qad.att(H:qad)(id k:Nat)(P:List Nat)(root':LV):qad:=
 { H with obj:=fun j=>bif Nat.beq j id then .lst root' else bif Nat.beq j k then .dead else qbv (qyh id k P.length) (H.obj j) }
def ESt.att(s:ESt)(id k:Nat)(P:List Nat)(root':LV):ESt:={ s with env:=fun t=>qbb (qyh id k P.length) (s.env t),heap:=s.heap.att id k P root' }
theorem q3z{s:ESt}{id k:Nat}{p:List Nat}{root v root' w:LV}{r c:Nat}{y:v.U.D}{H1:qbh}{o1:qc1}(hf:Fair s)(hik:id≠k)(ho:s.heap.obj id=.lst root)(hk:s.heap.obj k=.lst w)(hv:root.at p=some v)(hr:r<v.l.length)
  (hc:c<v.U.sz) (hy1:qao v.U y c=.own w.e w.U w.l) (hy2:∀c',c'≠c->qao v.U y c'=qao v.U (v.row r) c') (hp:root.put p (v.setRow r y)=some root')
  (hs1:∀i,H1.slot i=if i=⟨id,p⟩then .live o1 else(toH s.heap).slot i) (hlo:H1.lo=s.heap.lo)
  (h1:o1.ver=0) (h2:o1.elem=v.e) (h3:o1.sz=v.U.sz) (h4:o1.n=v.l.length)
  (h5:∀i,i<v.l.length->∀j,j<v.U.sz->(¬ (i=r/\j=c)/\o1.get i j=(v.obj s.heap.len id p).get i j)\/(i=r/\j=c/\Wk (o1.get i j) (.qbo ⟨k,[]⟩ 0 0 w.l.length)))
  (d:Option Tmp):qgy (((qbf s).on H1).put d .un) (qbf ((s.att id k (p++[c,r]) root').put d .un)):=by
 let PP:List Nat:=p++[c,r]
 let m:Id->Option Id:=q3y id k PP
 let f:=qyh id k PP.length
 let H':=s.heap.att id k PP root'
 obtain⟨a1,a2,a3,a4⟩:=LV.qvs p root v root' r c y hv hr hy2 hp;have hpe:=LV.qgo p root v hv;have hPP:PP.length=p.length+2:=by simp[PP]
 have atP:∀q,root'.at (PP++q)=w.at q:=fun q=>by
  have e1:root'.at PP=some ⟨w.e,w.U,w.l⟩:=by
   rw[LV.qbu _ _ _ _ a1,LV.at_one];refine LV.qec ?_;rw[LV.qbw hr,if_pos rfl];exact hy1
  rw[LV.qbu _ _ _ _ e1]
 have hobj:∀j,j≠id->j≠k->H'.obj j=qbv f (s.heap.obj j):=fun j e1 e2=>by simp only[H',qad.att,qav e1,qav e2,cond_false];rfl
 have hobji:H'.obj id=.lst root':=by simp only[H',qad.att,zjg,cond_true]
 have hobjk:H'.obj k=.dead:=by simp only[H',qad.att,qav (fun e=>hik e.symm),cond_false,zjg,cond_true]
 have hsl:∀q,(toH s.heap).slot ⟨id,q⟩=(OD.lst root).slot s.heap.len id q:=fun q=>by show(s.heap.obj id).slot _ _ _=_;rw[ho]
 have hslk:∀q,(toH s.heap).slot ⟨k,q⟩=(OD.lst w).slot s.heap.len k q:=fun q=>by show(s.heap.obj k).slot _ _ _=_;rw[hk]
 have hsl':∀q,(toH H').slot ⟨id,q⟩=(OD.lst root').slot H'.len id q:=fun q=>by show(H'.obj id).slot _ _ _=_;rw[hobji]
 have fn:∀j q,f j q=none->j≠k/\¬ (j=id/\PP <+: q):=fun j q h=>by
  obtain⟨e1,e2⟩:=qnu h;exact⟨e1,fun⟨x,y⟩=>e2 ⟨x,y.length_le⟩⟩
 have mo:∀j q,j≠id->j≠k->m ⟨j,q⟩=some ⟨j,q⟩:=fun j q e1 e2=>by simp only[m,q3y,if_neg e1,if_neg e2]
 have mi:∀q,¬ PP <+: q->m ⟨id,q⟩=some ⟨id,q⟩:=fun q e=>by simp only[m,q3y,if_true,if_neg e]
 have mp:∀q,m ⟨id,PP++q⟩=some ⟨k,q⟩:=fun q=>by
  simp only[m,q3y,if_true];rw[if_pos ⟨q,rfl⟩];simp
 have mk:∀q,m ⟨k,q⟩=none:=fun q=>by simp only[m,q3y,if_neg (fun e:k=id=>hik e.symm),if_true]
 have hkk:qbk f s.heap H1 H' m (fun _=>False):=⟨fun j q u h=>by
   have:u=.un:=qnt h;rw[this];simp only[toV];exact KG.un,
  fun j q h hb=>by
   obtain⟨e1,e2⟩:=fn j q h;by_cases hj:j=id
   ·subst hj;have hq:¬ PP <+: q:=fun e=>e2 ⟨rfl,e⟩;refine .inr ⟨?_,mi q hq⟩;rw[hsl',hs1];rw[hsl]at hb;simp only[OD.slot]at hb ⊢;by_cases hqp:q=p
    ·subst hqp;rw[if_pos rfl,a1];exact⟨h1.symm,h2.symm,h3.symm,by show(v.l.set r y).length=o1.n;rw[List.length_set,h4]⟩
    ·rw[if_neg (fun e=>hqp (by injection e)),hsl];simp only[OD.slot];rcases a2 q hq with⟨x1,x2⟩|⟨x,x',x1,x2,x3⟩
     ·rw[x2]at hb;exact absurd rfl hb
     ·rw[x1,x2];exact⟨rfl,x3.e,by show x'.U.sz=x.U.sz;rw[x3.U],x3.n⟩
   ·refine .inr ⟨?_,mo j q hj e1⟩;rw[hs1,if_neg (fun e=>hj (by injection e))];show qa1 _ ((H'.obj j).slot H'.len j q);rw[hobj j hj e1];exact qb9 hb,
  fun j q h hb=>by
   obtain⟨e1,e2⟩:=fn j q h;by_cases hj:j=id
   ·subst hj;have hq:¬ PP <+: q:=fun e=>e2 ⟨rfl,e⟩;unfold qad.len;rw[hobji,ho];simp only[OD.len];rcases a2 q hq with⟨x1,x2⟩|⟨x,x',x1,x2,x3⟩
    ·rw[x1,x2]
    ·rw[x1,x2];simp only[x3.n]
   ·exact qad.qdx (hobj j hj e1) q⟩
 have fo:∀j,j≠id->j≠k->∀q,f j q=none:=fun j e1 e2 q=>qh4 e2 (fun e=>absurd e e1);have lenP:H'.len id PP=some w.l.length:=by
  unfold qad.len;rw[hobji];simp only[OD.len];have:=atP [];rw[zkd,LV.qa8]at this;rw[this]
 -- cells of the list that moves
 have cellM:∀(q:List Nat) (a:LV),w.at q=some a->∀r' c',r'<a.l.length->KG H1 (toH H') m (fun _=>False) (qbg s.heap.len k q r' c' (qao a.U (a.row r') c')) (qbg H'.len id (PP++q) r' c' (qao a.U (a.row r') c')):=fun q a ha r' c' hr'=>by
  cases hx:qao a.U (a.row r') c' with
  |ev u=>exact KG.dat (qbi _ _ _ _ hx)
  |own t e l=>
   simp only[qbg];have e1:(toH s.heap).slot ⟨k,q++[c',r']⟩=.live (LV.obj s.heap.len k (q++[c',r']) ⟨t,e,l⟩):=by
    rw[hslk];exact qcw ha hx
   have e2:(toH H').slot ⟨id,PP++q++[c',r']⟩=.live (LV.obj H'.len id (PP++q++[c',r']) ⟨t,e,l⟩):=by
    rw[hsl'];exact qcw (by rw[atP];exact ha) hx
   refine KG.qbo (o:=LV.obj s.heap.len k (q++[c',r']) ⟨t,e,l⟩) (by rw[hs1,if_neg (fun e=>hik (by injection e with e _;exact e.symm))];exact e1) e2 ?_ rfl rfl rfl rfl (by show 0+l.length<=l.length;omega)
   have:=mp (q++[c',r']);rwa [<- zkr]at this
 have idlive:(toH s.heap).slot ⟨id,[]⟩≠.qae:=by rw[hsl];simp only[OD.slot,LV.qa8];intro e;cases e
 have klive:(toH s.heap).slot ⟨k,[]⟩≠.qae:=by rw[hslk];simp only[OD.slot,LV.qa8];intro e;cases e
 have kdead:∀q,(toH H').slot ⟨k,q⟩=.dead:=fun q=>by show(H'.obj k).slot _ _ _=_;rw[hobjk];rfl
 have hs1n:∀j q,(j=id->q≠p)->H1.slot ⟨j,q⟩=(toH s.heap).slot ⟨j,q⟩:=fun j q e=>by
  rw[hs1,if_neg (fun e2=>by injection e2 with e2 e3;exact e e2 e3)]
 -- cells of the lists that stay
 have cellS:∀(q:List Nat) (a a':LV),root.at q=some a->root'.at q=some a'->q.length % 2=0->¬ PP <+: q->∀r' c' (x x':Cell),¬ (q=p/\r'=r/\c'=c)->x=qao a.U (a.row r') c'->x'=qao a'.U (a'.row r') c'->x.Sim x' ->
   KG H1 (toH H') m (fun _=>False) (qbg s.heap.len id q r' c' x) (qbg H'.len id q r' c' x'):=fun q a a' ha ha' hqe hnq r' c' x x' hne hx hx' hsim=>by
  cases x with
  |ev u=>
   cases x' with
   |own t e l=>exact hsim.elim
   |ev u'=>
    have:u=u':=hsim;subst this;exact KG.dat (qbi _ _ _ _ hx.symm)
  |own t e l=>
   cases x' with
   |ev u=>exact hsim.elim
   |own t' e' l'=>
    obtain⟨rfl,rfl,hl⟩:=hsim;simp only[qbg];have np:¬ PP <+: q++[c',r']:=fun⟨z,hz⟩=>by
     have hlen:=congrArg List.length hz;simp only[zjh,zi9,zji]at hlen;by_cases hz0:z=[]
     ·subst hz0;rw[zkd]at hz;have h2:p=q/\[c,r]=[c',r']:=List.append_inj' hz rfl;have h3:=h2.2;simp only[List.cons.injEq,and_true]at h3;exact hne ⟨h2.1.symm,h3.2.symm,h3.1.symm⟩
     ·have hzl:z.length≠0:=fun e=>hz0 (zla e);refine hnq (List.prefix_of_prefix_length_le ⟨z,hz⟩ (List.prefix_append q [c',r']) ?_);omega
    rw[hl];have e1:(toH s.heap).slot ⟨id,q++[c',r']⟩=.live (LV.obj s.heap.len id (q++[c',r']) ⟨t,e,l⟩):=by rw[hsl];exact qcw ha hx.symm
    have e2:(toH H').slot ⟨id,q++[c',r']⟩=.live (LV.obj H'.len id (q++[c',r']) ⟨t,e,l'⟩):=by rw[hsl'];exact qcw ha' hx'.symm
    by_cases hqp:q++[c',r']=p
    ·have hv2:root.at (q++[c',r'])=some ⟨t,e,l⟩:=by rw[LV.qbu _ _ _ _ ha,LV.at_one,LV.qec hx.symm]
     have hvv:v=⟨t,e,l⟩:=by rw[hqp,hv]at hv2;injection hv2
     refine KG.qbo (o:=o1) (by rw[hs1,if_pos (by rw[hqp])]) e2 (mi _ np) h1.symm rfl ?_ ?_ (by show 0+l'.length<=l'.length;omega)
     ·rw[h3,hvv];rfl
     ·rw[h2,hvv];rfl
    ·exact KG.qbo (o:=LV.obj s.heap.len id (q++[c',r']) ⟨t,e,l⟩) (by rw[hs1n _ _ (fun _=>hqp)];exact e1) e2 (mi _ np) rfl rfl rfl rfl (by show 0+l'.length<=l'.length;omega)
 have gen:Gen H1 (toH H') m (fun _=>False):=by
  refine Gen.qbb (fun j=>j=id\/j=k) hkk hf.obj (fun j hj=>?_) (fun i hi o' ho'=>?_) (fun i hi sb g' hm=>?_) (fun i j x hi h1' h2' e1 e2=>?_) (by rw[hlo];rfl) (fun i hi=>?_) (fun i hi hil hip=>?_)
  ·have e1:j≠id:=fun e=>hj (.inl e);have e2:j≠k:=fun e=>hj (.inr e);exact⟨fo j e1 e2,hobj j e1 e2,fun q=>mo j q e1 e2,fun q h=>h,fun q=>hs1n j q (fun e=>absurd e e1)⟩
  ·obtain⟨j,q⟩:=i;by_cases hj:j=id
   ·subst hj;rw[hsl']at ho';simp only[OD.slot]at ho';cases ha':root'.at q with
    |none=>rw[ha']at ho';cases ho'
    |some a'=>
     rw[ha']at ho';injection ho' with ho';subst ho';by_cases hq:PP <+: q
     ·obtain⟨q',rfl⟩:=hq;rw[atP]at ha';refine .inr ⟨⟨k,q'⟩,LV.obj s.heap.len k q' a',mp q',?_,fun h=>h,rfl,rfl,zi7 _,fun r' hr' c' _=>cellM q' a' ha' r' c' hr'⟩;rw[hs1n _ _ (fun e=>absurd e.symm hik),hslk];simp only[OD.slot,ha']
     ·by_cases hqp:q=p
      ·subst hqp;rw[a1]at ha';injection ha' with ha';subst ha';refine .inr ⟨⟨j,q⟩,o1,mi q hq,by rw[hs1,if_pos rfl],fun h=>h,h2.symm,h3.symm,by rw[h4];show(v.l.set r y).length<=_;rw[List.length_set];exact zi7 _,fun r' hr' c' hc'=>?_⟩
       have hr':r'<v.l.length:=by
        have:r'<(v.l.set r y).length:=hr';rwa [List.length_set]at this
       have hc':c'<v.U.sz:=hc';have er:(v.setRow r y).row r'=if r'=r then y else v.row r':=LV.qbw hr r';show KG _ _ _ _ _ (qbg H'.len j q r' c' (qao v.U ((v.setRow r y).row r') c'));rcases h5 r' hr' c' hc' with⟨b1,b2⟩|⟨rfl,rfl,b3⟩
       ·rw[b2];refine cellS q v (v.setRow r y) hv a1 hpe hq r' c' _ _ (fun e=>b1 ⟨e.2.1,e.2.2⟩) rfl rfl ?_;have:qao v.U ((v.setRow r y).row r') c'=qao v.U (v.row r') c':=by
         rw[er];by_cases hrr:r'=r
         ·rw[if_pos hrr,hrr];exact hy2 c' (fun e=>b1 ⟨hrr,e⟩)
         ·rw[if_neg hrr]
        show(qao v.U (v.row r') c').Sim (qao v.U ((v.setRow r y).row r') c');rw[this];exact Cell.Sim.rfl _
       ·rw[er,if_pos rfl,hy1];simp only[qbg];have e2:(toH H').slot ⟨j,PP⟩=.live (LV.obj H'.len j PP w):=by
         rw[hsl'];have:=atP [];rw[zkd,LV.qa8]at this;simp only[OD.slot,this]
        have e1:H1.slot ⟨k,[]⟩=.live (LV.obj s.heap.len k [] w):=by
         rw[hs1n _ _ (fun e=>absurd e.symm hik),hslk];simp only[OD.slot,LV.qa8]
        have em:m ⟨j,PP⟩=some ⟨k,[]⟩:=by
         have:=mp [];rwa [zkd]at this
        exact KG.qh9 b3 (KG.qbo e1 e2 em rfl rfl rfl rfl (by show 0+w.l.length<=w.l.length;omega))
      ·rcases a2 q hq with⟨x1,x2⟩|⟨x,x',x1,x2,x3⟩
       ·rw[x1]at ha';cases ha'
       ·rw[x2]at ha';injection ha' with ha';subst ha';refine .inr ⟨⟨j,q⟩,LV.obj s.heap.len j q x,mi q hq,?_,fun h=>h,x3.e,?_,zkp x3.n,fun r' hr' c' hc'=>?_⟩
        ·rw[hs1n _ _ (fun _=>hqp),hsl];simp only[OD.slot,x1]
        ·show x'.U.sz=x.U.sz;rw[x3.U]
        ·exact cellS q x x' x1 x2 (LV.qgo _ _ _ x1) hq r' c' _ _ (fun e=>hqp e.1) rfl rfl (x3.c r' c' (fun e=>hqp e.1))
   ·have hj2:j=k:=hi.resolve_left hj;subst hj2;rw[kdead]at ho';cases ho'
  ·obtain⟨j,q⟩:=i;by_cases hj:j=id
   ·subst hj;rw[hsl']at hm;simp only[OD.slot]at hm;cases ha':root'.at q<;>rw[ha']at hm<;>cases hm
   ·have hj2:j=k:=hi.resolve_left hj;subst hj2;rw[kdead]at hm;cases hm
  ·obtain⟨j1,q1⟩:=i;obtain⟨j2,q2⟩:=j;have n1:j1≠k:=fun e=>by subst e;rw[kdead]at h1';exact h1'
   have n2:j2≠k:=fun e=>by subst e;rw[kdead]at h2';exact h2'
   have hj:j1=id:=hi.resolve_right n1;subst hj;have key:∀q y,m ⟨j1,q⟩=some y->(PP <+: q/\y=⟨k,q.drop PP.length⟩)\/(¬ PP <+: q/\y=⟨j1,q⟩):=fun q y e=>by
    by_cases hq:PP <+: q
    ·obtain⟨z,rfl⟩:=hq;rw[mp]at e;injection e with e;exact .inl ⟨⟨z,rfl⟩,by rw[<- e];simp⟩
    ·rw[mi q hq]at e;injection e with e;exact .inr ⟨hq,e.symm⟩
   by_cases hj2:j2=j1
   ·subst hj2;rcases key q1 x e1 with⟨p1,x1⟩|⟨p1,x1⟩<;>rcases key q2 x e2 with⟨p2,x2⟩|⟨p2,x2⟩
    ·rw[x1]at x2;injection x2 with _ x2;obtain⟨z1,rfl⟩:=p1;obtain⟨z2,rfl⟩:=p2;simp at x2;rw[x2]
    ·rw[x1]at x2;injection x2 with x2 _;exact absurd x2.symm hik
    ·rw[x1]at x2;injection x2 with x2 _;exact absurd x2 hik
    ·rw[<- x1,<- x2]
   ·rw[mo j2 q2 hj2 n2]at e2;injection e2 with e2;rcases key q1 x e1 with⟨p1,x1⟩|⟨p1,x1⟩
    ·rw[x1]at e2;injection e2 with e2 _;exact absurd e2 n2
    ·rw[x1]at e2;injection e2 with e2 _;exact absurd e2 hj2
  ·have hi:s.heap.next<=i.k:=hi;have e1:i.k≠id:=fun e=>idlive (by
    have:=hf.next ⟨id,[]⟩ (by rw[<- e];exact hi)
    exact this)
   have e2:i.k≠k:=fun e=>klive (by
    have:=hf.next ⟨k,[]⟩ (by rw[<- e];exact hi)
    exact this)
   show(H'.obj i.k).slot _ _ _=_;rw[hobj _ e1 e2];exact qcs.2 (hf.next i hi)
  ·obtain⟨j,q⟩:=i;simp only at hip hil;subst hip;by_cases hj:j=id
   ·subst hj;have np:¬ PP <+: ([]:List Nat):=fun⟨z,hz⟩=>by
     have:=congrArg List.length hz;simp only[zjh,zji]at this;omega
    have fnone:f j []=none:=qh4 hik (fun _=>by rw[hPP];simp)
    rcases hkk.slot j [] fnone idlive with h|⟨h,h'⟩
    ·exact .inr (.inl h)
    ·exact .inr (.inr ⟨h',h⟩)
   ·have hj2:j=k:=hi.resolve_left hj;subst hj2;exact .inr (.inl (kdead []))
 refine qgy.gen m (fun _=>False) (by rw[qay,qg8,qg8];rfl) (by rw[qcv,qay,qcv];exact gen) (fun t=>?_)
 have hh1:(((qbf s).on H1).put d .un).heap=H1:=by rw[qcv];rfl
 have hh2:(qbf ((s.att id k (p++[c,r]) root').put d .un)).heap=toH H':=by rw[qay,qcv];rfl
 rw[hh1,hh2,qay];have base:KG H1 (toH H') m (fun _=>False) (toV s.heap.len (s.env t)) (toV H'.len (qbb f (s.env t))):=qbk.keeps hkk _ (hf.env t);cases d with
 |none=>exact base
 |some d=>
  show KG _ _ _ _ ((((qbf s).on H1).put (some d) .un).env t) (((qbf (s.att id k (p++[c,r]) root')).put (some d) _).env t);simp only[St.put];cases Nat.beq t d with
  |false=>exact base
  |true=>
   show KG _ _ _ _ _ (bif Nat.blt d s.nt then toV H'.len .un else .un);cases Nat.blt d s.nt<;>exact KG.un
theorem qy1{len:Len}{k:Nat}{e:TypeId}{i j:Nat}{f:SU.D i->SU.D j}{l:List (SU.D i)}(h:qa3.upF i j=some f)(p:List Nat):(OD.lst ⟨e,.st j,l.map f⟩).slot len k p=(OD.lst ⟨e,.st i,l⟩).slot len k p/\(OD.lst ⟨e,.st j,l.map f⟩).len p=(OD.lst ⟨e,.st i,l⟩).len p:=by
 obtain⟨h1,h2,h3⟩:=qa3.zb6 i j f h;have hrow:∀r,(l.map f).getD r (SU.z j)=f (l.getD r (SU.z i)):=fun r=>by
  rw[<- h2];simp only[zi5,zkc];cases l[r]?<;>rfl
 have hc:∀r c,qao (.st j) (LV.row ⟨e,.st j,l.map f⟩ r) c=qao (.st i) (LV.row ⟨e,.st i,l⟩ r) c:=fun r c=>by
  show qa3.cell j ((l.map f).getD r (SU.z j)) c=qa3.cell i (l.getD r (SU.z i)) c;rw[hrow];exact h3 _ _
 match p with
 |[]=>
  simp only[OD.slot,OD.len,LV.qa8];have hn:(l.map f).length=l.length:=zje _;have hg:(fun r c=>qbg len k [] r c (qao (.st j) (LV.row ⟨e,.st j,l.map f⟩ r) c))=(fun r c=>qbg len k [] r c (qao (.st i) (LV.row ⟨e,.st i,l⟩ r) c)):=by
   funext r c;rw[hc]
  refine⟨?_,by rw[show(LV.mk e (.st j) (l.map f)).l.length=l.length from hn]⟩;show Slot.live { elem:=e,sz:=SU.sz j,ver:=0,n:=(l.map f).length,get:=fun r c=>qbg len k [] r c (qao (.st j) (LV.row ⟨e,.st j,l.map f⟩ r) c) }=Slot.live { elem:=e,sz:=SU.sz i,ver:=0,n:=l.length,get:=fun r c=>qbg len k [] r c (qao (.st i) (LV.row ⟨e,.st i,l⟩ r) c) };rw[hn,h1,hg]
 |[x]=>simp only[OD.slot,OD.len,LV.qfi,and_self]
 |c::r::q=>
  have hk:LV.kid ⟨e,.st j,l.map f⟩ c r=LV.kid ⟨e,.st i,l⟩ c r:=by
   unfold LV.kid;have:=hc r c;unfold LV.row at this;rw[this]
  simp only[OD.slot,OD.len,LV.qbr,hk,and_self]
theorem qpp{s:ESt}{k:Nat}{e:TypeId}{i j:Nat}{f:SU.D i->SU.D j}{l:List (SU.D i)}(ho:s.heap.obj k=.lst ⟨e,.st i,l⟩)(h:qa3.upF i j=some f):qbf (s.on (s.heap.set k (.lst ⟨e,.st j,l.map f⟩)))=qbf s:=by
 have hl:(s.heap.set k (.lst ⟨e,.st j,l.map f⟩)).len=s.heap.len:=by
  funext a p;unfold qad.len;by_cases ha:a=k
  ·subst ha;simp only[qad.set,zjg,cond_true,ho];exact(qy1 (len:=fun _ _=>none) (k:=0) h p).2
  ·rw[qad.qi2 ha]
 unfold qbf ESt.on toH;simp only[hl];congr 2;funext id;by_cases ha:id.k=k
 ·simp only[qad.set,ha,zjg,cond_true,ho];exact(qy1 h id.p).1
 ·rw[qad.qi2 ha]
def upTo(w:LV)(e:Ty):LV:=match w,e with
 | ⟨el,.st i,l⟩,.st j=>(match qa3.upF i j with
  |some f=>⟨el,.st j,l.map f⟩
  | none=>⟨el,.st i,l⟩)
 |w,_=>w
theorem qzp{s:ESt}{k:Nat}{w:LV}(e:Ty)(ho:s.heap.obj k=.lst w):qbf (s.on (s.heap.set k (.lst (upTo w e))))=qbf s:=by
 have same:qbf (s.on (s.heap.set k (.lst w)))=qbf s:=by
  have:s.on (s.heap.set k (.lst w))=s:=by
   obtain⟨nt,env,H⟩:=s;obtain⟨nx,lo,obj,md⟩:=H;unfold ESt.on qad.set;simp only;congr 2;funext a;by_cases ha:a=k
   ·subst ha;rw[zjg];exact ho.symm
   ·rw[qav ha];rfl
  rw[this]
 unfold upTo;split
 ·rename_i el i l j;split
  ·rename_i f hf;exact qpp ho hf
  ·exact same
 ·exact same
theorem Fair.of_eq{s s1:ESt}(h:qbf s1=qbf s)(hn:s1.heap.next=s.heap.next)(hf:Fair s):Fair s1:=by
 have hH:toH s1.heap=toH s.heap:=congrArg St.heap h;have hE:∀t,toV s1.heap.len (s1.env t)=toV s.heap.len (s.env t):=fun t=>congrFun (congrArg St.env h) t;exact⟨fun t=>by rw[hH,hE];exact hf.env t,by rw[hH];exact hf.obj,by rw[hH,hn];exact hf.next⟩
end
end
end Go.Abs
namespace Go.Abs
open Go
noncomputable section
variable {P:Program} {d:Option Tmp} {ty:TypeId} {L:List GOp} {ρ:Type}
section
variable [SU] [qa3] {Q:Exit->ESt->Prop}
def qor:EV->Option (List EV)
 |.st k v=>bif qa3.fro k then some (qdc 0 [] (.st k) v 0 0 (SU.sz k))else none
 |.agg l=>some l
 |_=>none
def shO{α ρ:Type}(x:α)(K:α->Option ρ):Option ρ:=K x
@[simp] theorem ql3{α ρ:Type}(x:α)(K:α->Option ρ):shO x K=K x:=rfl
def zfe(s:ESt)(d:Option Tmp)(id:Nat)(back:LV->Option LV)(v:LV)(r:Nat)(y:v.U.D)(K:ESt->Option ρ):Option ρ:=match back ⟨v.e,v.U,v.l.set r y⟩with
 |some root'=>bif qkb root'.U then K ((s.on (s.heap.set id (.lst root'))).put d .un)else shO root'.l fun l=>K ((s.on (s.heap.set id (.lst ⟨root'.e,root'.U,l⟩))).put d .un)
 |none=>none
def zh9(s:ESt)(d:Option Tmp)(id:Nat)(p:List Nat)(back:LV->Option LV)(v:LV)(r c:Nat)(u:EV)(K:ESt->Option ρ)(no:Option ρ):Option ρ:=match u with
 | .qa7 k []=>(match qr0 v.U c with
  | some (_,e)=>(match s.heap.obj k with
   | .lst w=>bif Nat.beq id k then none else(match qt2 v.U (v.l.getD r v.U.z) c (upTo w e).e (upTo w e).U (upTo w e).l with
    | some y=>(match back ⟨v.e,v.U,v.l.set r y⟩with
     |some root'=>shO root'.l fun l=>K (((s.on (s.heap.set k (.lst (upTo w e)))).att id k (p++[c,r]) ⟨root'.e,root'.U,l⟩).put d .un)
     | none=>none)
    | none=>none)
   | _=>no)
  | none=>no)
 |_=>no
def qi1(s:ESt)(d:Option Tmp)(agg:Bool)(sz:Nat)(a u:EV)(K:ESt->Option ρ)(no:Option ρ):Option ρ:=match a with
 |.ptr id p r c=>match s.heap.obj id with
  |.cells e l=>match p with
   | []=>grd (Nat.blt r 1) (bif agg then(match qor u with
     |some m=>bif Nat.beq m.length sz&&Nat.ble (c+sz) l.length then K ((s.on (s.heap.set id (.cells e (qn0 l c m)))).put d .un)else none
     | none=>none)
      else bif Nat.beq sz 1&&Nat.blt c l.length&&u.one then K ((s.on (s.heap.set id (.cells e (qte l c u)))).put d .un)else none)
   |_=>none
  | .lst root=>root.qpm p fun v back=>grd (Nat.blt r v.l.length) (bif agg then(bif Nat.beq (qnw u) sz&&Nat.ble (c+sz) v.U.sz then(match q0i v.U (v.l.getD r v.U.z) c u with
      |some y=>zfe s d id back v r y K
      | none=>no)else none)
     else bif Nat.beq sz 1&&Nat.blt c v.U.sz&&u.one then(match qxj v.U (v.l.getD r v.U.z) c u with
      |some y=>zfe s d id back v r y K
      | none=>zh9 s d id p back v r c u K no)else none)
  |_=>none
 |_=>none
theorem qxb{s:ESt}{y:Operand}(h0:0<qnw (s.eval y)):∃g,(qbf s).eval y=.agg (qnw (s.eval y)) g/\∀j,j<qnw (s.eval y)->Wk (g j) (qs0 s.heap.len (s.eval y) j):=by
 cases he:s.eval y with
 |st i v=>
  have:=eval_eq he rfl;rw[this];exact⟨_,by simp only[toV];rfl,fun j hj=>Wk.refl _⟩
 |agg l=>
  obtain⟨g',hg,hw⟩:=q7q he;exact⟨g',hg,hw⟩
 |_=>rw[he]at h0;exact absurd h0 (zku _)
theorem qnc(H:qbh)(len:Len)(v:Value):qfs H (toV len (qd1 v)):=by rw[qdg];exact V.qnl _ _
theorem qna{s:ESt}(hf:Fair s)(x:Operand):qfs (toH s.heap) (toV s.heap.len (s.eval x)):=by
 cases x with
 |tmp t=>exact hf.env t
 |const v=>
  show qfs _ (toV _ (qtg v));rcases qet v with⟨cs,rfl⟩|e
  ·simp only[qtg];cases ha:cs.all (·.oneCell')with
   |false=>simp only[cond_false,toV];trivial
   |true=>
    simp only[cond_true,toV,zje,zkz];intro j hj;rw[qdn];simp only[zi5,zkc,zkf];rw[zjt hj];exact qnc _ _ _
  ·rw[e];exact qnc _ _ _
 |global g=>simp only[ESt.eval,toV];trivial
 |func f=>simp only[ESt.eval,toV];intro j hj;exact absurd hj (zjj _)
theorem q5l{s:ESt}{y:Operand}{m:List EV}(hf:Fair s)(h:qor (s.eval y)=some m):m.length=qnw (s.eval y)/\(∀j,j<m.length->Wk (qs0 s.heap.len (s.eval y) j) (qa4 s.heap.len m j))/\∀j,j<m.length->qfs (toH s.heap) (qa4 s.heap.len m j):=by
 cases he:s.eval y with
 |st k v=>
  rw[he]at h;simp only[qor]at h;obtain⟨hfr,h⟩:=qah h;injection h with h;subst h;rw[qby];have e:∀j,j<SU.sz k->qa4 s.heap.len (qdc 0 [] (.st k) v 0 0 (SU.sz k)) j=.t (SU.enc k v j):=fun j hj=>by
   rw[qd2 _ _ _ _ _ _ _ _ _ hj,zjf,qir (U:=.st k) hfr hj];rfl
  exact⟨rfl,fun j hj=>by rw[e j hj];exact Wk.refl _,fun j hj=>by rw[e j hj];trivial⟩
 |agg l=>
  rw[he]at h;simp only[qor]at h;injection h with h;subst h;have:=qna hf y;rw[he]at this;simp only[toV]at this;exact⟨rfl,fun j hj=>Wk.refl _,this⟩
 |_=>rw[he]at h;cases h
theorem qz1{s:ESt}{l:List EV}{c:Nat}{u:EV}(hl:∀j,j<l.length->qfs (toH s.heap) (qa4 s.heap.len l j))(hu:qfs (toH s.heap) (toV s.heap.len u)) :
  ∀j,j<(qte l c u).length->qfs (toH s.heap) (qa4 s.heap.len (qte l c u) j):=fun j hj=>by
 rw[qht]at hj;rw[ql6 _ _ _ _ _ hj];split
 ·exact hu
 ·exact hl j hj
theorem qxg{s:ESt}{l m:List EV}{c:Nat}(hl:∀j,j<l.length->qfs (toH s.heap) (qa4 s.heap.len l j))(hm:∀j,j<m.length->qfs (toH s.heap) (qa4 s.heap.len m j)) :
  ∀j,j<(qn0 l c m).length->qfs (toH s.heap) (qa4 s.heap.len (qn0 l c m) j):=fun j hj=>by
 rw[ql4]at hj;rw[qpr _ _ _ _ _ hj];split
 ·exact hm _ (by omega)
 ·exact hl j hj
theorem qkw.born{s:ESt}{id:Nat}{e:TypeId}{m:List EV}(hf:Fair s)(h:qkw s id e m):∀j,j<m.length->qfs (toH s.heap) (qa4 s.heap.len m j):=fun j hj=>by
 obtain⟨o,q1,q2,q3,q4,q5,q6,q7⟩:=h.slot;rw[<- q6 j hj];exact hf.obj _ _ q1 0 (by omega) j (by omega)
theorem qkn[T:Tys P]{s:ESt}{t:TypeId}{x y:Operand}{id c:Nat}{e:TypeId}{m:List EV}{K:ESt->Option ρ}{res:ρ}(hK:∀s',K s'=some res->SLT P L Q s')(hf:Fair s)(hx:s.eval x=.ptr id [] 0 c)(hc:qkw s id e m)
  (h0:Nat.blt 0 (Tys.c P t).sz=true) (ha:(Tys.c P t).agg=false) (hsz:Nat.beq (Tys.c P t).sz 1=true) (hcl:Nat.blt c m.length=true) (hu:(s.eval y).one=true)
  (h:K ((s.on (s.heap.set id (.cells e (qte m c (s.eval y))))).put d .un)=some res):SL P (⟨d,.store t x y,ty,none⟩::L) (qe9 Q) (qbf s):=by
 have:=qb6.of' h0 ha;rw[qbj hsz]at this;have hcl:=zi8 hcl;obtain⟨o,q1,q2,q3,q4,q5,q6,q7⟩:=hc.slot;have hx:=eval_eq hx rfl;simp only[toV]at hx;obtain⟨u,u1,u2,u3⟩:=qvw hu;refine SL.qi1 hx q1 q2.symm (by omega) (by rw[q4];exact hcl) u1 u2 (SL.weak (qof (o1:=o.q00 0 c u) hf hc (qht _ _ _) (qz1 (hc.born hf) (qna hf y)) q2 q3 q4 q5 (fun j hj=>?_) d) (hK _ h).out)
 simp only[qc1.q00,quz];rw[ql6 _ _ _ _ _ hj];by_cases hjc:j=c
 ·rw[if_pos ⟨trivial,hjc⟩,if_pos hjc];exact u3
 ·rw[if_neg (fun e=>hjc e.2),if_neg hjc,q6 j hj];exact Wk.refl _
theorem qkm[T:Tys P]{s:ESt}{t:TypeId}{x y:Operand}{id c:Nat}{e:TypeId}{m l:List EV}{K:ESt->Option ρ}{res:ρ}(hK:∀s',K s'=some res->SLT P L Q s')(hf:Fair s)(hx:s.eval x=.ptr id [] 0 c)(hc:qkw s id e m)
  (h0:Nat.blt 0 (Tys.c P t).sz=true) (ha:(Tys.c P t).agg=true) (hp:qor (s.eval y)=some l) (hsz:Nat.beq l.length (Tys.c P t).sz=true) (hcl:Nat.ble (c+(Tys.c P t).sz) m.length=true)
  (h:K ((s.on (s.heap.set id (.cells e (qn0 m c l)))).put d .un)=some res):SL P (⟨d,.store t x y,ty,none⟩::L) (qe9 Q) (qbf s):=by
 have:=qb6.of' h0 ha;have hsz:=qbj hsz;have hcl:=zi8 hcl;have h0':0<(Tys.c P t).sz:=zi8 h0;obtain⟨o,q1,q2,q3,q4,q5,q6,q7⟩:=hc.slot;have hx:=eval_eq hx rfl;simp only[toV]at hx;obtain⟨p1,p2,p3⟩:=q5l hf hp;obtain⟨g,hg,hw⟩:=qxb (s:=s) (y:=y) (by omega);rw[<- p1,hsz]at hg;refine SL.qzv hx q1 q2.symm (by omega) (by rw[q4];exact hcl) hg (SL.weak (qof (o1:=o.put 0 c (Tys.c P t).sz g) hf hc (ql4 _ _ _) (qxg (hc.born hf) p3) q2 q3 q4 q5 (fun j hj=>?_) d) (hK _ h).out)
 simp only[qc1.put,q8l];rw[qpr _ _ _ _ _ hj,hsz];by_cases hjc:c<=j/\j<c+(Tys.c P t).sz
 ·rw[if_pos ⟨trivial,hjc⟩,if_pos hjc];exact(hw _ (by omega)).trans (p2 _ (by omega))
 ·rw[if_neg (fun e=>hjc e.2),if_neg hjc,q6 j hj];exact Wk.refl _
theorem qrh[T:Tys P]{s:ESt}{t:TypeId}{x y:Operand}{K:ESt->Option ρ}{no:Option ρ}{res:ρ}(hK:∀s',K s'=some res->SLT P L Q s')(h0:Nat.blt 0 (Tys.c P t).sz=true)
  (hno:Fair s->no=some res->SL P (⟨d,.store t x y,ty,none⟩::L) (qe9 Q) (qbf s))
  (h:qi1 s d (Tys.c P t).agg (Tys.c P t).sz (s.eval x) (s.eval y) K no=some res):SLT P (⟨d,.store t x y,ty,none⟩::L) Q s:=by
 refine⟨SL.fair fun hf=>?_⟩;unfold qi1 at h;split at h
 ·rename_i id p r c hx;split at h
  ·rename_i e l ho;split at h
   ·have hh:=qbs h;clear h;obtain⟨hr,h⟩:=hh;have hr:=zi8 hr;obtain rfl:r=0:=by omega
    cases ha:(Tys.c P t).agg with
    |true=>
     rw[ha]at h;simp only[cond_true]at h;split at h
     ·rename_i m hm;obtain⟨hb,h⟩:=qah h;simp only[zi4]at hb;exact qkm hK hf hx (.cells ho) h0 ha hm hb.1 hb.2 h
     ·cases h
    |false=>
     rw[ha]at h;simp only[cond_false]at h;obtain⟨hb,h⟩:=qah h;simp only[zi4]at hb;exact qkn hK hf hx (.cells ho) h0 ha hb.1.1 hb.1.2 hb.2 h
   ·cases h
  ·rename_i root ho;obtain⟨v,back,hv,hback,g⟩:=LV.qg2 _ _ _ _ h;clear h;obtain⟨hr,h⟩:=qbs g;clear g;have hr:r<v.l.length:=zi8 hr;have hat:s.heap.at id p=some v:=by simp only[qad.at,ho];exact hv
   have hs:=qb2 hat;have hx:=eval_eq hx rfl;simp only[toV]at hx;cases ha:(Tys.c P t).agg with
   |true=>
    rw[ha]at h;simp only[cond_true]at h;obtain⟨hb,h⟩:=qah h;simp only[zi4]at hb;split at h
    ·rename_i y' hy;unfold zfe at h;split at h
     ·rename_i root' hp;have h:K ((s.on (s.heap.set id (.lst root'))).put d .un)=some res:=by cases hfr:qkb root'.U<;>(rw[hfr]at h;exact h)
      have hp:=hback _ _ hp;have h1:=qbj hb.1;have h2:=zi8 hb.2;have h0':0<(Tys.c P t).sz:=zi8 h0;have:=qb6.of' h0 ha;obtain⟨g,hg,hw⟩:=qxb (s:=s) (y:=y) (by omega);have k:=q0h hy;rw[h1]at hg k;refine SL.qzv hx hs rfl hr h2 hg (SL.weak (qoe (o1:=(v.obj s.heap.len id p).put r c (Tys.c P t).sz g) (g:=fun len=>qs0 len (s.eval y)) hf ho hv hr k hp rfl rfl rfl rfl (fun i hi j hj=>?_) d) (hK _ h).out);simp only[qc1.put,q8l];by_cases hjc:i=r/\c<=j/\j<c+(Tys.c P t).sz
      ·exact .inr ⟨hjc.1,hjc.2,by rw[if_pos hjc];exact hw _ (by omega)⟩
      ·exact .inl ⟨hjc,by rw[if_neg hjc]⟩
     ·cases h
    ·exact hno hf h
   |false=>
    rw[ha]at h;simp only[cond_false]at h;obtain⟨hb,h⟩:=qah h;simp only[zi4]at hb;have h1:=qbj hb.1.1;have h2:c<v.U.sz:=zi8 hb.1.2;have:=qb6.of' h0 ha;rw[h1]at this;split at h
    ·rename_i y' hy;unfold zfe at h;split at h
     ·rename_i root' hp;have h:K ((s.on (s.heap.set id (.lst root'))).put d .un)=some res:=by cases hfr:qkb root'.U<;>(rw[hfr]at h;exact h)
      have hp:=hback _ _ hp;obtain⟨u,u1,u2,u3⟩:=qvw hb.2;refine SL.qi1 hx hs rfl hr h2 u1 u2 (SL.weak (qoe (o1:=(v.obj s.heap.len id p).q00 r c u) (g:=fun len _=>toV len (s.eval y)) hf ho hv hr (qk6.set hy) hp rfl rfl rfl rfl (fun i hi j hj=>?_) d) (hK _ h).out);simp only[qc1.q00,quz];by_cases hjc:i=r/\j=c
      ·exact .inr ⟨hjc.1,by omega,by rw[if_pos hjc];exact u3⟩
      ·exact .inl ⟨fun e=>hjc ⟨e.1,by omega⟩,by rw[if_neg hjc]⟩
     ·cases h
    ·unfold zh9 at h;split at h
     ·rename_i k hu;split at h
      ·rename_i te e hte;split at h
       ·rename_i w hw;cases hik:Nat.beq id k with
        |true=>rw[hik]at h;cases h
        |false=>
         rw[hik]at h;simp only[cond_false]at h;have hne:id≠k:=fun e=>by subst e;simp at hik
         split at h
         ·rename_i y' hy;split at h
          ·rename_i root' hp;have hp:=hback _ _ hp;have heq:=qzp e hw
           let s1:ESt:=s.on (s.heap.set k (.lst (upTo w e)))
           have hf1:Fair s1:=Fair.of_eq heq rfl hf;have ho1:s1.heap.obj id=.lst root:=by show(bif Nat.beq id k then _ else _)=_;rw[hik];exact ho
           have hw1:s1.heap.obj k=.lst (upTo w e):=by show(bif Nat.beq k k then _ else _)=_;rw[zjg];rfl
           have hu1:s1.eval y=.qa7 k []:=hu;have hone:(s1.eval y).one=true:=by rw[hu1];rfl
           obtain⟨u,u1,u2,u3⟩:=qvw hone;have hatk:s1.heap.at k []=some (upTo w e):=by simp only[qad.at,hw1,LV.qa8]
           rw[hu1]at u3;simp only[toV,qad.qf0 hatk]at u3;obtain⟨y1,y2⟩:=qp3 _ _ _ _ _ _ _ hy;have hat1:s1.heap.at id p=some v:=by simp only[qad.at,ho1];exact hv
           have hs1:=qb2 hat1;have hx1:(qbf s1).eval x=.ptr ⟨id,p⟩ 0 r c:=by rw[heq];exact hx
           rw[<- heq];refine SL.qi1 hx1 hs1 rfl hr h2 u1 u2 (SL.weak (q3z (H1:=(qbf s1).heap.set ⟨id,p⟩ ((v.obj s1.heap.len id p).q00 r c u)) (o1:=(v.obj s1.heap.len id p).q00 r c u) hf1 hne ho1 hw1 hv hr h2 y1 y2 hp (fun i=>?_) rfl rfl rfl rfl rfl (fun i hi j hj=>?_) d) (hK _ h).out)
           ·show(bif Id.beq i ⟨id,p⟩then _ else _)=_;exact qeh _ _ _ _
           ·simp only[qc1.q00,quz];by_cases hjc:i=r/\j=c
            ·exact .inr ⟨hjc.1,hjc.2,by rw[if_pos hjc];exact u3⟩
            ·exact .inl ⟨hjc,by rw[if_neg hjc]⟩
          ·cases h
         ·cases h
       ·exact hno hf h
      ·exact hno hf h
     ·exact hno hf h
  ·cases h
 ·cases h
def qk9(s:ESt)(d:Option Tmp)(agg:Bool)(sz:Nat)(a u:EV)(K:ESt->Option ρ)(no:Option ρ):Option ρ:=match a with
 |.ptr id [] r c=>match s.heap.obj id with
  | .lst ⟨e,U,[x]⟩=>bif qkb U then grd (Nat.blt r 1) (bif agg then(match qor u with
     |some m=>bif Nat.beq m.length sz&&Nat.ble (c+sz) U.sz then K ((s.on (s.heap.set id (.cells e (qn0 (qdc id [] U x 0 0 U.sz) c m)))).put d .un)else none
     | none=>none)
      else bif Nat.beq sz 1&&Nat.blt c U.sz&&u.one then K ((s.on (s.heap.set id (.cells e (qte (qdc id [] U x 0 0 U.sz) c u)))).put d .un)else none)else no
  |_=>no
 |_=>no
theorem ql0[T:Tys P]{s:ESt}{t:TypeId}{x y:Operand}{K:ESt->Option ρ}{no:Option ρ}{res:ρ}(hK:∀s',K s'=some res->SLT P L Q s')(h0:Nat.blt 0 (Tys.c P t).sz=true)
  (hno:no=some res->SL P (⟨d,.store t x y,ty,none⟩::L) (qe9 Q) (qbf s)) (hf:Fair s)
  (h:qk9 s d (Tys.c P t).agg (Tys.c P t).sz (s.eval x) (s.eval y) K no=some res):SL P (⟨d,.store t x y,ty,none⟩::L) (qe9 Q) (qbf s):=by
 unfold qk9 at h;split at h
 ·rename_i id r c hx;split at h
  ·rename_i e U z ho;cases hfr:qkb U with
   |false=>rw[hfr]at h;exact hno h
   |true=>
    rw[hfr]at h;simp only[cond_true]at h;have hh:=qbs h;clear h;obtain⟨hr,h⟩:=hh;have hr:=zi8 hr;obtain rfl:r=0:=by omega
    have hc:qkw s id e (qdc id [] U z 0 0 U.sz):=.box ho hfr rfl;cases ha:(Tys.c P t).agg with
    |true=>
     rw[ha]at h;simp only[cond_true]at h;split at h
     ·rename_i m hm;obtain⟨hb,h⟩:=qah h;simp only[zi4]at hb;exact qkm hK hf hx hc h0 ha hm hb.1 (by rw[qby];exact hb.2) h
     ·cases h
    |false=>
     rw[ha]at h;simp only[cond_false]at h;obtain⟨hb,h⟩:=qah h;simp only[zi4]at hb;exact qkn hK hf hx hc h0 ha hb.1.1 (by rw[qby];exact hb.1.2) hb.2 h
  ·exact hno h
 ·exact hno h
def qzu(P:Program)[Tys P](s:ESt)(d:Option Tmp)(t:TypeId)(x y:Operand)(K:ESt->Option ρ):Option ρ:=
 bif Nat.blt 0 (Tys.c P t).sz then qi1 s d (Tys.c P t).agg (Tys.c P t).sz (s.eval x) (s.eval y) K
  (qk9 s d (Tys.c P t).agg (Tys.c P t).sz (s.eval x) (s.eval y) K
   (qic s (fun s'=>qi1 s' d (Tys.c P t).agg (Tys.c P t).sz (s'.eval x) (s'.eval y) K none) (qp1 (s.eval y))))else none
theorem qzt[T:Tys P]{s:ESt}{t:TypeId}{x y:Operand}{K:ESt->Option ρ}{res:ρ}(hK:∀s',K s'=some res->SLT P L Q s')(h:qzu P s d t x y K=some res):SLT P (⟨d,.store t x y,ty,none⟩::L) Q s:=by
 unfold qzu at h;obtain⟨h0,h⟩:=qah h;refine qrh hK h0 (fun hf h=>?_) h;refine ql0 hK h0 (fun h=>?_) hf h;obtain⟨s',w,h⟩:=qdu _ _ h;exact SL.weak w (qrh (no:=none) hK h0 (fun _ h=>by cases h) h).out
end
end
end Go.Abs
namespace Go.Abs
open Go
variable {P:Program} {d:Option Tmp} {ty:TypeId} {L:List GOp}
def qi7(H:qbh):qbh:={ H with slot:=fun i=>if i.p=[]then H.slot i else .qae }
def qe5(w:World)(H:qbh)(M:Id->Option Nat)(F:Nat->Prop):Env:=⟨w,qtd H M,qi7 H,M,F⟩
theorem qmc{H:qbh}{i:Id}(h:i.p=[]):(qi7 H).slot i=H.slot i:=if_pos h
theorem qrt{H:qbh}{i:Id}(h:i.p≠[]):(qi7 H).slot i=.qae:=if_neg h
structure Part(Hc Hl:qbh)(m:Id->Option Id):Prop where
 next:Nx Hl
 lo:Hl.lo=Hl.next
 obj:∀i o',Hl.slot i=.live o'->(m i=none/\o'.n=0)\/∃x o,m i=some x/\Hc.slot x=.live o/\o'.ver=o.ver/\o'.elem=o.elem/\o'.sz=o.sz/\o'.n=o.n/\∀r,r<o'.n->∀c,c<o'.sz->KG Hc Hl m (fun _=>False) (o.get r c) (o'.get r c)
 mp:∀i s g',Hl.slot i=.mp s g'->∃x g,m i=some x/\Hc.slot x=.mp s g/\∀k,(g k=none/\g' k=none)\/∃u u',g k=some u/\g' k=some u'/\KG Hc Hl m (fun _=>False) u u'
 inj:∀i j x,(Hl.slot i).is->(Hl.slot j).is->m i=some x->m j=some x->i=j
theorem qkk{H:qbh}{M:Id->Option Nat}{F:Nat->Prop}:FZ H M (fun _=>False) F=F:=by
 funext b;apply propext
 constructor
 ·rintro(h|⟨i,hi,_⟩)
  ·exact h
  ·exact hi.elim
 ·exact .inl
theorem Part.rel{E:Env}{M:Id->Option Nat}{F:Nat->Prop}{Hc Hl:qbh}{m:Id->Option Id}{w:World}(r:qde E M F Hc w)(k:Part Hc Hl m):qde (qe5 w Hl (mι m M) F) (mι m M) F Hl w:=by
 have is:∀id b,(Hl.slot id).is->mι m M id=some b->∃x,m id=some x/\M x=some b/\(Hc.slot x).is:=fun id b h hb=>by
  obtain⟨x,hx,hxb⟩:=qp6 hb;cases hs:Hl.slot id with
  |live o'=>
   rcases k.obj id o' hs with⟨e,_⟩|⟨y,o,hy,ho,_⟩
   ·rw[e]at hx;cases hx
   ·rw[hy]at hx;injection hx with hx;subst hx;exact⟨y,hy,hxb,by rw[ho];trivial⟩
  |mp s g=>obtain⟨y,g',hy,ho,_⟩:=k.mp id s g hs;rw[hy]at hx;injection hx with hx;subst hx;exact⟨y,hy,hxb,by rw[ho];trivial⟩
  |qae=>rw[hs]at h;exact h.elim
  |dead=>rw[hs]at h;exact h.elim
 refine⟨rfl,rfl,rfl,zi7 _,fun _ _ _=>rfl,fun id o' h=>?_,fun id s g h=>?_,fun i j b h h' hi hj=>?_,
  fun i b h hi=>?_,fun i b h hi=>.inl ⟨i,h,hi⟩,fun i b h hi=>?_,r.qny,fun b hb=>.inl hb,k.next,?_,fun i hi=>?_⟩
 ·rcases k.obj id o' h with⟨e1,e2⟩|⟨x,o,hm,ho,hv,he,hs,hn,hg⟩
  ·refine⟨by rw[e2];exact zkt _,?_⟩
   rw[qv5 e1];exact e2
  obtain⟨h1,h2⟩:=r.obj _ o ho;refine⟨by rw[hn];exact h1,?_⟩
  rw[qce hm];cases hk:M x with
  |none=>rw[hk]at h2;have h2:o.n=0:=h2;show o'.n=0;omega
  |some b=>
   rw[hk]at h2;obtain⟨cur,g1,g2,g3⟩:=h2;dsimp only;rw[he,hs];refine⟨cur,g1,by rw[hn];exact g2,fun i hi j hj=>?_⟩
   obtain⟨c,a,b,d⟩:=g3 i (by omega) j hj;have:=hg i hi j (by omega) _ _ _ _ _ r d;rw[qkk]at this;exact⟨c,a,b,this⟩
 ·obtain⟨x,g',hm,hg,hk⟩:=k.mp id s g h;obtain⟨b,es,clock,g1,g2,g3,g4⟩:=r.qyn _ s g' hg;refine⟨b,es,clock,(qce hm).trans g1,g2,g3,fun key hkey=>?_⟩;have:=g4 key hkey;rcases hk key with⟨e1,e2⟩|⟨u,u',e1,e2,e3⟩
  ·rw[e1]at this;rw[e2];exact this
  ·rw[e1]at this;rw[e2];obtain⟨n,e,a,b,c⟩:=this;have:=e3 _ _ _ _ _ r c;rw[qkk]at this;exact⟨n,e,a,b,this⟩
 ·obtain⟨x,hx1,hx2,hx3⟩:=is i b h hi;obtain⟨y,hy1,hy2,hy3⟩:=is j b h' hj;obtain rfl:=r.inj x y b hx3 hy3 hx2 hy2;exact k.inj i j x h h' hx1 hy1
 ·obtain⟨x,hx1,hx2,hx3⟩:=is i b h hi;exact r.qt7 _ b hx3 hx2
 ·obtain⟨x,hx1,hx2,hx3⟩:=is i b h hi;exact r.lt _ b hx3 hx2
 ·refine Ext.of (fun _ h=>h) (fun _ _=>rfl) fun i=>?_;unfold qf6;show match(qi7 Hl).slot i with|_=>_
  by_cases hp:i.p=[]
  ·rw[show(qe5 w Hl (mι m M) F).H0.slot i=Hl.slot i from qmc hp];cases hs:Hl.slot i with
   |qae=>trivial
   |dead=>rfl
   |mp s g=>exact .inr ⟨⟨s,g,rfl⟩,rfl⟩
   |live o=>exact .inr ⟨o,rfl,zi7 _,fun _=>⟨rfl,rfl,zi7 _,rfl,fun b cur hb hc=>⟨cur,hc,rfl⟩⟩⟩
  ·rw[show(qe5 w Hl (mι m M) F).H0.slot i=.qae from qrt hp];trivial
 ·show(qi7 Hl).slot i=.qae;by_cases hp:i.p=[]
  ·rw[qmc hp];rcases hi with hi|hi
   ·exact k.next i (by rw[<- k.lo];exact hi)
   ·exact absurd hp hi
  ·exact qrt hp
structure zfu(Hc Hl Hl' Hc':qbh)(m n:Id->Option Id):Prop where
 lo:Hc'.lo=Hc.lo
 next:Nx Hc'
 out:∀i,n i=none->(Hc'.slot i).is->(∀x,(Hl.slot x).is->m x≠some i)/\qa1 (Hc.slot i) (Hc'.slot i)
 ziu:∀i j x,n i=some x->n j=some x->i=j
 low:∀i:Id,i.k<Hc.lo->i.p=[]->Hc.slot i=.qae\/Hc'.slot i=.dead\/(n i=none/\qa1 (Hc.slot i) (Hc'.slot i)) \/
  ∃x,n i=some x/\m x=some i/\x.p=[]/\qa1 (Hc.slot i) (Hl.slot x)/\qa1 (Hl'.slot x) (Hc'.slot i)
def ι4(n:Id->Option Id)(ιc ι3:Id->Option Nat):Id->Option Nat:=fun i=>match n i with
 |some x=>ι3 x
 |none=>ιc i
theorem qf7{n:Id->Option Id}{ιc ι3:Id->Option Nat}{i x:Id}(h:n i=some x):ι4 n ιc ι3 i=ι3 x:=by unfold ι4;rw[h]
theorem qfb{n:Id->Option Id}{ιc ι3:Id->Option Nat}{i:Id}(h:n i=none):ι4 n ιc ι3 i=ιc i:=by unfold ι4;rw[h]
theorem qwh{E:Env}{ιc:Id->Option Nat}{Fc:Nat->Prop}{Hc Hl Hl' Hc':qbh}{m n:Id->Option Id}{w w':World}{ι3:Id->Option Nat}{F3:Nat->Prop}(r:qde E ιc Fc Hc w)(k:Part Hc Hl m)
  (r3:qde (qe5 w Hl (mι m ιc) Fc) ι3 F3 Hl' w') {i:Id} (hn:n i=none) (hl:qa1 (Hc.slot i) (Hc'.slot i)) (hm:(Hc'.slot i).is->∀x,(Hl.slot x).is->m x≠some i) :
  (∀ver rr c v,qa0 Hc ιc Fc w (.ptr i ver rr c) v->qa0 Hc' (ι4 n ιc ι3) F3 w' (.ptr i ver rr c) v)/\(∀ver rr c v,qa0 Hc ιc Fc w (.qbo i ver rr c) v->qa0 Hc' (ι4 n ιc ι3) F3 w' (.qbo i ver rr c) v)/\∀v,qa0 Hc ιc Fc w (.qca i) v->qa0 Hc' (ι4 n ιc ι3) F3 w' (.qca i) v:=by
 have blk:∀b,(Hc'.slot i).is->(Hc.slot i).is->ιc i=some b->w'.heap[b]?=w.heap[b]?:=fun b hi' hi hb=>by
  refine r3.kept b (r.lt i b hi hb) ?_
  rintro⟨x,hx1,hx2⟩
  obtain⟨y,hy1,hy2⟩:=qp6 hx2;have hy3:(Hc.slot y).is:=by
   cases hs:Hl.slot x with
   |live o'=>
    rcases k.obj x o' hs with⟨e,_⟩|⟨z,o,hz,ho,_⟩
    ·rw[e]at hy1;cases hy1
    ·rw[hy1]at hz;injection hz with hz;subst hz;rw[ho];trivial
   |mp s g=>obtain⟨z,g',hz,ho,_⟩:=k.mp x s g hs;rw[hy1]at hz;injection hz with hz;subst hz;rw[ho];trivial
   |qae=>rw[hs]at hx1;exact hx1.elim
   |dead=>rw[hs]at hx1;exact hx1.elim
  have:=r.inj i y b hi hy3 hb hy2;subst this;exact hm hi' x hx1 hy1
 refine⟨?_,?_,?_⟩
 ·rintro ver rr c v ⟨h0,h1⟩
  refine⟨h0,?_⟩;cases hs':Hc'.slot i with
  |dead=>trivial
  |mp s g=>trivial
  |qae=>rw[hs']at hl;cases hs:Hc.slot i<;>rw[hs]at hl<;>exact hl.elim
  |live o'=>
   rw[hs']at hl;cases hs:Hc.slot i with
   |live o=>
    rw[hs]at hl h1;obtain⟨a,b,c,d⟩:=hl;show ver<=o'.ver/\_;rw[qfb hn,a,c];exact h1
   |qae=>rw[hs]at hl;exact hl.elim
   |dead=>rw[hs]at hl;exact hl.elim
   |mp _ _=>rw[hs]at hl;exact hl.elim
 ·rintro ver rr c v ⟨h0,h1⟩
  refine⟨h0,?_⟩;cases hs':Hc'.slot i with
  |dead=>trivial
  |mp s g=>trivial
  |qae=>rw[hs']at hl;cases hs:Hc.slot i<;>rw[hs]at hl<;>exact hl.elim
  |live o'=>
   rw[hs']at hl;cases hs:Hc.slot i with
   |live o=>
    rw[hs]at hl h1;obtain⟨a,b,c,d⟩:=hl;show ver<=o'.ver/\_;rw[qfb hn,a,b,c,d];refine⟨h1.1,fun hv=>?_⟩;obtain⟨q1,A,cap,q2,q3,q4⟩:=h1.2 hv;refine⟨q1,A,cap,q2,q3,fun hc=>?_⟩;obtain⟨b,cur,p1,p2,p3,p4⟩:=q4 hc;exact⟨b,cur,p1,p2,by rw[blk b (by rw[hs'];trivial) (by rw[hs];trivial) p1];exact p3,p4⟩
   |qae=>rw[hs]at hl;exact hl.elim
   |dead=>rw[hs]at hl;exact hl.elim
   |mp _ _=>rw[hs]at hl;exact hl.elim
 ·rintro v ⟨h0,h1⟩
  refine⟨h0,?_⟩;cases hs':Hc'.slot i with
  |dead=>trivial
  |live o'=>trivial
  |qae=>rw[hs']at hl;cases hs:Hc.slot i<;>rw[hs]at hl<;>exact hl.elim
  |mp s g=>
   rw[hs']at hl;cases hs:Hc.slot i with
   |mp _ _=>rw[hs]at h1;show ∃b,ι4 n ιc ι3 i=some b/\_;rw[qfb hn];exact h1
   |qae=>rw[hs]at hl;exact hl.elim
   |dead=>rw[hs]at hl;exact hl.elim
   |live _=>rw[hs]at hl;exact hl.elim
theorem q1r{E:Env}{ιc:Id->Option Nat}{Fc:Nat->Prop}{Hc Hl Hl' Hc':qbh}{m n:Id->Option Id}{w w':World}{ι3:Id->Option Nat}{F3:Nat->Prop}(r:qde E ιc Fc Hc w)
  (r3:qde (qe5 w Hl (mι m ιc) Fc) ι3 F3 Hl' w') {i x:Id} (hn:n i=some x) (hm:m x=some i) (hp:x.p=[]) (h1:qa1 (Hc.slot i) (Hl.slot x)) (h2:qa1 (Hl'.slot x) (Hc'.slot i)) :
  (∀ver rr c v,qa0 Hc ιc Fc w (.ptr i ver rr c) v->qa0 Hc' (ι4 n ιc ι3) F3 w' (.ptr i ver rr c) v)/\(∀ver rr c v,qa0 Hc ιc Fc w (.qbo i ver rr c) v->qa0 Hc' (ι4 n ιc ι3) F3 w' (.qbo i ver rr c) v)/\∀v,qa0 Hc ιc Fc w (.qca i) v->qa0 Hc' (ι4 n ιc ι3) F3 w' (.qca i) v:=by
 have hin:∀u u',(∀v,qa0 Hc ιc Fc w u v->qa0 (qi7 Hl) (mι m ιc) Fc w u' v)->∀v,qa0 Hc ιc Fc w u v->qa0 Hl' ι3 F3 w' u' v:=fun u u' h v hv=>r3.ext u' v (h v hv);have hroot:(qi7 Hl).slot x=Hl.slot x:=qmc hp;refine⟨fun ver rr c v hv=>?_,fun ver rr c v hv=>?_,fun v hv=>?_⟩
 ·have:=hin (.ptr i ver rr c) (.ptr x ver rr c) (fun v ⟨a,b⟩=>⟨a,by
   rw[hroot];cases hs:Hl.slot x with
   |dead=>trivial
   |mp _ _=>trivial
   |qae=>rw[hs]at h1;cases hs':Hc.slot i<;>rw[hs']at h1<;>exact h1.elim
   |live o'=>
    rw[hs]at h1;cases hs':Hc.slot i with
    |live o=>
     rw[hs']at h1 b;obtain⟨q1,q2,q3,q4⟩:=h1;show ver<=o'.ver/\_;rw[qce hm,q1,q3];exact b
    |qae=>rw[hs']at h1;exact h1.elim
    |dead=>rw[hs']at h1;exact h1.elim
    | mp _ _=>rw[hs']at h1;exact h1.elim⟩) v hv
  obtain⟨a,b⟩:=this;refine⟨a,?_⟩;cases hs:Hc'.slot i with
  |dead=>trivial
  |mp _ _=>trivial
  |qae=>rw[hs]at h2;cases hs':Hl'.slot x<;>rw[hs']at h2<;>exact h2.elim
  |live o'=>
   rw[hs]at h2;cases hs':Hl'.slot x with
   |live o=>
    rw[hs']at h2 b;obtain⟨q1,q2,q3,q4⟩:=h2;show ver<=o'.ver/\_;rw[qf7 hn,q1,q3];exact b
   |qae=>rw[hs']at h2;exact h2.elim
   |dead=>rw[hs']at h2;exact h2.elim
   |mp _ _=>rw[hs']at h2;exact h2.elim
 ·have:=hin (.qbo i ver rr c) (.qbo x ver rr c) (fun v ⟨a,b⟩=>⟨a,by
   rw[hroot];cases hs:Hl.slot x with
   |dead=>trivial
   |mp _ _=>trivial
   |qae=>rw[hs]at h1;cases hs':Hc.slot i<;>rw[hs']at h1<;>exact h1.elim
   |live o'=>
    rw[hs]at h1;cases hs':Hc.slot i with
    |live o=>
     rw[hs']at h1 b;obtain⟨q1,q2,q3,q4⟩:=h1;show ver<=o'.ver/\_;rw[qce hm,q1,q2,q3,q4];exact b
    |qae=>rw[hs']at h1;exact h1.elim
    |dead=>rw[hs']at h1;exact h1.elim
    | mp _ _=>rw[hs']at h1;exact h1.elim⟩) v hv
  obtain⟨a,b⟩:=this;refine⟨a,?_⟩;cases hs:Hc'.slot i with
  |dead=>trivial
  |mp _ _=>trivial
  |qae=>rw[hs]at h2;cases hs':Hl'.slot x<;>rw[hs']at h2<;>exact h2.elim
  |live o'=>
   rw[hs]at h2;cases hs':Hl'.slot x with
   |live o=>
    rw[hs']at h2 b;obtain⟨q1,q2,q3,q4⟩:=h2;show ver<=o'.ver/\_;rw[qf7 hn,q1,q2,q3,q4];exact b
   |qae=>rw[hs']at h2;exact h2.elim
   |dead=>rw[hs']at h2;exact h2.elim
   |mp _ _=>rw[hs']at h2;exact h2.elim
 ·have:=hin (.qca i) (.qca x) (fun v ⟨a,b⟩=>⟨a,by
   rw[hroot];cases hs:Hl.slot x with
   |dead=>trivial
   |live _=>trivial
   |qae=>rw[hs]at h1;cases hs':Hc.slot i<;>rw[hs']at h1<;>exact h1.elim
   |mp _ _=>
    rw[hs]at h1;cases hs':Hc.slot i with
    |mp _ _=>rw[hs']at b;show ∃b,mι m ιc x=some b/\_;rw[qce hm];exact b
    |qae=>rw[hs']at h1;exact h1.elim
    |dead=>rw[hs']at h1;exact h1.elim
    | live _=>rw[hs']at h1;exact h1.elim⟩) v hv
  obtain⟨a,b⟩:=this;refine⟨a,?_⟩;cases hs:Hc'.slot i with
  |dead=>trivial
  |live _=>trivial
  |qae=>rw[hs]at h2;cases hs':Hl'.slot x<;>rw[hs']at h2<;>exact h2.elim
  |mp _ _=>
   rw[hs]at h2;cases hs':Hl'.slot x with
   |mp _ _=>rw[hs']at b;show ∃b,ι4 n ιc ι3 i=some b/\_;rw[qf7 hn];exact b
   |qae=>rw[hs']at h2;exact h2.elim
   |dead=>rw[hs']at h2;exact h2.elim
   |live _=>rw[hs']at h2;exact h2.elim
theorem q79{ιc:Id->Option Nat}{Fc:Nat->Prop}{Hc Hl Hl' Hc':qbh}{m n:Id->Option Id}{w w':World}{ι3:Id->Option Nat}{F3:Nat->Prop}(r3:qde (qe5 w Hl (mι m ιc) Fc) ι3 F3 Hl' w'){u:V}
  (h:∀H M H' ι' F w v,qa0 H M F w u v->qa0 H' ι' F w u v):∀v,qa0 Hc ιc Fc w u v->qa0 Hc' (ι4 n ιc ι3) F3 w' u v:=fun v hv=>h _ _ _ _ _ _ _ (r3.ext u v (h _ _ (qi7 Hl) (mι m ιc) _ _ _ hv))
theorem zfu.rel{E:Env}{ιc:Id->Option Nat}{Fc:Nat->Prop}{Hc Hl Hl' Hc':qbh}{m n:Id->Option Id}{w w':World}{ι3:Id->Option Nat}{F3:Nat->Prop}(r:qde E ιc Fc Hc w)(k:Part Hc Hl m)
  (r3:qde (qe5 w Hl (mι m ιc) Fc) ι3 F3 Hl' w') (b:zfu Hc Hl Hl' Hc' m n)
  (hout:∀i o',n i=none->Hc'.slot i=.live o'->∃o,Hc.slot i=.live o/\∀r,r<o'.n->∀c,c<o'.sz->∀v,qa0 Hc ιc Fc w (o.get r c) v->qa0 Hc' (ι4 n ιc ι3) F3 w' (o'.get r c) v)
  (hin:∀i x o',n i=some x->Hc'.slot i=.live o'->∃o,Hl'.slot x=.live o/\o'.elem=o.elem/\o'.sz=o.sz/\o'.n=o.n/\∀r,r<o'.n->∀c,c<o'.sz->∀v,qa0 Hl' ι3 F3 w' (o.get r c) v->qa0 Hc' (ι4 n ιc ι3) F3 w' (o'.get r c) v)
  (moutp:∀i s g',n i=none->Hc'.slot i=.mp s g'->∃g,Hc.slot i=.mp s g/\∀k,(g k=none/\g' k=none)\/∃u u',g k=some u/\g' k=some u'/\∀v,qa0 Hc ιc Fc w u v->qa0 Hc' (ι4 n ιc ι3) F3 w' u' v)
  (minp:∀i x s g',n i=some x->Hc'.slot i=.mp s g'->∃g,Hl'.slot x=.mp s g/\∀k,(g k=none/\g' k=none)\/∃u u',g k=some u/\g' k=some u'/\∀v,qa0 Hl' ι3 F3 w' u v->qa0 Hc' (ι4 n ιc ι3) F3 w' u' v) :
  qde E (ι4 n ιc ι3) F3 Hc' w':=by
 have W0:∀b,qtd Hl (mι m ιc) b->∃x y,(Hl.slot x).is/\m x=some y/\(Hc.slot y).is/\ιc y=some b:=by
  rintro b ⟨x,hx1,hx2⟩
  obtain⟨y,hy1,hy2⟩:=qp6 hx2;refine⟨x,y,hx1,hy1,?_,hy2⟩;cases hs:Hl.slot x with
  |live o'=>
   rcases k.obj x o' hs with⟨e,_⟩|⟨z,o,hz,ho,_⟩
   ·rw[e]at hy1;cases hy1
   ·rw[hy1]at hz;injection hz with hz;subst hz;rw[ho];trivial
  |mp s g=>obtain⟨z,g',hz,ho,_⟩:=k.mp x s g hs;rw[hy1]at hz;injection hz with hz;subst hz;rw[ho];trivial
  |qae=>rw[hs]at hx1;exact hx1.elim
  |dead=>rw[hs]at hx1;exact hx1.elim
 -- an object's block: of the callee, or an old one that the callee did not get
 have kind:∀i bl,(Hc'.slot i).is->ι4 n ιc ι3 i=some bl->(∃x,n i=some x/\(Hl'.slot x).is/\ι3 x=some bl)\/(n i=none/\(Hc.slot i).is/\ιc i=some bl/\¬ qtd Hl (mι m ιc) bl):=fun i bl h hb=>by
  cases hn:n i with
  |some x=>
   rw[qf7 hn]at hb;refine .inl ⟨x,rfl,?_,hb⟩;cases hs:Hc'.slot i with
   |live o'=>obtain⟨o,ho,_⟩:=hin i x o' hn hs;rw[ho];trivial
   |mp s g=>obtain⟨g',ho,_⟩:=minp i x s g hn hs;rw[ho];trivial
   |qae=>rw[hs]at h;exact h.elim
   |dead=>rw[hs]at h;exact h.elim
  |none=>
   rw[qfb hn]at hb;have hi:(Hc.slot i).is:=by
    cases hs:Hc'.slot i with
    |live o'=>obtain⟨o,ho,_⟩:=hout i o' hn hs;rw[ho];trivial
    |mp s g=>obtain⟨g',ho,_⟩:=moutp i s g hn hs;rw[ho];trivial
    |qae=>rw[hs]at h;exact h.elim
    |dead=>rw[hs]at h;exact h.elim
   refine .inr ⟨rfl,hi,hb,fun hW=>?_⟩;obtain⟨x,y,q1,q2,q3,q4⟩:=W0 bl hW;have:=r.inj i y bl hi q3 hb q4;subst this;exact(b.out i hn h).1 x q1 q2
 refine⟨r3.os.trans r.os,r3.tape.trans r.tape,r3.output.trans r.output,zj6 r.size r3.size,fun bl hb hW=>?_,fun i o' h=>?_,fun i s g h=>?_,fun i j bl h h' hi hj=>?_,
  fun i bl h hi hF=>?_,fun i bl h hi=>?_,fun i bl h hi=>?_,r3.qny,fun bl hF=>?_,b.next,?_,by rw[b.lo];exact r.lo⟩
 ·rw[r3.kept bl (zkg hb r.size) (fun hx=>by
   obtain⟨x,y,q1,q2,q3,q4⟩:=W0 bl hx;rcases r.own y bl q3 q4 with h|h
   ·exact hW h
   ·omega)]
  exact r.kept bl hb hW
 ·cases hn:n i with
  |some x=>
   obtain⟨o,ho,he,hs,hnn,hg⟩:=hin i x o' hn h;obtain⟨h1,h2⟩:=r3.obj x o ho;refine⟨by rw[hnn];exact h1,?_⟩
   rw[qf7 hn];cases hk:ι3 x with
   |none=>rw[hk]at h2;have h2:o.n=0:=h2;show o'.n=0;omega
   |some bl=>
    rw[hk]at h2;obtain⟨cur,g1,g2,g3⟩:=h2;dsimp only;rw[he,hs];refine⟨cur,g1,by rw[hnn];exact g2,fun i hi j hj=>?_⟩
    obtain⟨c,a,b,d⟩:=g3 i (by omega) j hj;exact⟨c,a,b,hg i hi j (by omega) _ d⟩
  |none=>
   obtain⟨o,ho,hg⟩:=hout i o' hn h;have hl:=(b.out i hn (by rw[h];trivial)).2
   rw[ho,h]at hl;obtain⟨q1,q2,q3,q4⟩:=hl;obtain⟨h1,h2⟩:=r.obj i o ho;refine⟨by rw[q4];exact h1,?_⟩
   rw[qfb hn];cases hk:ιc i with
   |none=>rw[hk]at h2;have h2:o.n=0:=h2;show o'.n=0;omega
   |some bl=>
    rw[hk]at h2;obtain⟨cur,g1,g2,g3⟩:=h2;dsimp only;rw[q2,q3];have hb:w'.heap[bl]?=w.heap[bl]?:=by
     rcases kind i bl (by rw[h];trivial) (by rw[qfb hn];exact hk)with⟨x,e,_⟩|⟨_,a,b,c⟩
     ·rw[hn]at e;cases e
     ·exact r3.kept bl (r.lt i bl a b) c
    refine⟨cur,by rw[hb];exact g1,by rw[q4];exact g2,fun x hx j hj=>?_⟩
    obtain⟨c,a,b,d⟩:=g3 x (by omega) j hj;exact⟨c,a,b,hg x hx j (by omega) _ d⟩
 ·cases hn:n i with
  |some x=>
   obtain⟨g',hg,hk⟩:=minp i x s g hn h;obtain⟨bl,es,clock,g1,g2,g3,g4⟩:=r3.qyn _ s g' hg;refine⟨bl,es,clock,(qf7 hn).trans g1,g2,g3,fun key hkey=>?_⟩;have:=g4 key hkey;rcases hk key with⟨e1,e2⟩|⟨u,u',e1,e2,e3⟩
   ·rw[e1]at this;rw[e2];exact this
   ·rw[e1]at this;rw[e2];obtain⟨n,e,a,b,c⟩:=this;exact⟨n,e,a,b,e3 _ c⟩
  |none=>
   obtain⟨g',hg,hk⟩:=moutp i s g hn h;obtain⟨bl,es,clock,g1,g2,g3,g4⟩:=r.qyn _ s g' hg;have hb:w'.heap[bl]?=w.heap[bl]?:=by
    rcases kind i bl (by rw[h];trivial) (by rw[qfb hn];exact g1)with⟨x,e,_⟩|⟨_,a,b,c⟩
    ·rw[hn]at e;cases e
    ·exact r3.kept bl (r.lt i bl a b) c
   refine⟨bl,es,clock,(qfb hn).trans g1,by rw[hb];exact g2,g3,fun key hkey=>?_⟩
   have:=g4 key hkey;rcases hk key with⟨e1,e2⟩|⟨u,u',e1,e2,e3⟩
   ·rw[e1]at this;rw[e2];exact this
   ·rw[e1]at this;rw[e2];obtain⟨n,e,a,b,c⟩:=this;exact⟨n,e,a,b,e3 _ c⟩
 ·rcases kind i bl h hi with⟨x,e1,e2,e3⟩|⟨e1,e2,e3,e4⟩
  ·rcases kind j bl h' hj with⟨y,f1,f2,f3⟩|⟨f1,f2,f3,f4⟩
   ·have:=r3.inj x y bl e2 f2 e3 f3;subst this;exact b.ziu i j x e1 f1
   ·rcases r3.own x bl e2 e3 with hw|hw
    ·exact absurd hw f4
    ·have:=r.lt j bl f2 f3;have hw:w.heap.size<=bl:=hw;omega
  ·rcases kind j bl h' hj with⟨y,f1,f2,f3⟩|⟨f1,f2,f3,f4⟩
   ·rcases r3.own y bl f2 f3 with hw|hw
    ·exact absurd hw e4
    ·have:=r.lt i bl e2 e3;have hw:w.heap.size<=bl:=hw;omega
   ·exact r.inj i j bl e2 f2 e3 f3
 ·rcases kind i bl h hi with⟨x,e1,e2,e3⟩|⟨e1,e2,e3,e4⟩
  ·exact r3.qt7 x bl e2 e3 hF
  ·rcases r3.qx3 bl hF with hx|hx|hx
   ·exact r.qt7 i bl e2 e3 hx
   ·exact e4 hx
   ·have:=r.lt i bl e2 e3;have hx:w.heap.size<=bl:=hx;omega
 ·rcases kind i bl h hi with⟨x,e1,e2,e3⟩|⟨e1,e2,e3,e4⟩
  ·rcases r3.own x bl e2 e3 with hw|hw
   ·obtain⟨x,y,q1,q2,q3,q4⟩:=W0 bl hw;exact r.own y bl q3 q4
   ·exact .inr (zj6 r.size hw)
  ·exact r.own i bl e2 e3
 ·rcases kind i bl h hi with⟨x,e1,e2,e3⟩|⟨e1,e2,e3,e4⟩
  ·exact r3.lt x bl e2 e3
  ·exact zkg (r.lt i bl e2 e3) r3.size
 ·rcases r3.qx3 bl hF with hx|hx|hx
  ·exact r.qx3 bl hx
  ·obtain⟨x,y,q1,q2,q3,q4⟩:=W0 bl hx;rcases r.own y bl q3 q4 with h|h
   ·exact .inr (.inl h)
   ·exact .inr (.inr h)
  ·exact .inr (.inr (zj6 r.size hx))
 ·-- what was related outside
  have low:∀id,E.H0.slot id≠.qae->id.k<Hc.lo/\id.p=[]:=fun id h=>
   ⟨Nat.lt_of_not_le fun hle=>h (r.lo id (.inl hle)),Classical.byContradiction fun hp=>h (r.lo id (.inr hp))⟩
  have leaf:∀id,E.H0.slot id≠.qae->Hc.slot id≠.qae->(∀ver rr c v,qa0 Hc ιc Fc w (.ptr id ver rr c) v->qa0 Hc' (ι4 n ιc ι3) F3 w' (.ptr id ver rr c) v)/\(∀ver rr c v,qa0 Hc ιc Fc w (.qbo id ver rr c) v->qa0 Hc' (ι4 n ιc ι3) F3 w' (.qbo id ver rr c) v)/\∀v,qa0 Hc ιc Fc w (.qca id) v->qa0 Hc' (ι4 n ιc ι3) F3 w' (.qca id) v:=fun id h hb=>by
   obtain⟨l1,l2⟩:=low id h;rcases b.low id l1 l2 with e|e|⟨e1,e2⟩|⟨x,e1,e2,e3,e4,e5⟩
   ·exact absurd e hb
   ·exact⟨fun _ _ _ v h=>⟨h.1,by rw[e];trivial⟩,fun _ _ _ v h=>⟨h.1,by rw[e];trivial⟩,fun v h=>⟨h.1,by rw[e];trivial⟩⟩
   ·exact qwh r k r3 e1 e2 (fun his=>(b.out id e1 his).1)
   ·exact q1r r r3 e1 e2 e3 e4 e5
  have key:∀u v,qa0 E.H0 E.ι0 E.F0 E.w0 u v->qa0 Hc ιc Fc w u v->qa0 Hc' (ι4 n ιc ι3) F3 w' u v:=by
   intro u
   induction u with
   |ptr id ver rr c=>
    intro v h0 h1;exact(leaf id (fun e=>by obtain⟨_,h0⟩:=h0;rw[e]at h0;exact h0) (fun e=>by obtain⟨_,h1⟩:=h1;rw[e]at h1;exact h1)).1 _ _ _ _ h1
   |qbo id ver rr c=>
    intro v h0 h1;exact(leaf id (fun e=>by obtain⟨_,h0⟩:=h0;rw[e]at h0;exact h0) (fun e=>by obtain⟨_,h1⟩:=h1;rw[e]at h1;exact h1)).2.1 _ _ _ _ h1
   |qca id=>
    intro v h0 h1;exact(leaf id (fun e=>by obtain⟨_,h0⟩:=h0;rw[e]at h0;exact h0) (fun e=>by obtain⟨_,h1⟩:=h1;rw[e]at h1;exact h1)).2.2 _ h1
   |fn f n cap ih=>
    rintro v ⟨cs,h1,h2,h3⟩ ⟨cs',h1',h2',h3'⟩
    rw[h1]at h1';injection h1' with _ _ h1';subst h1';refine⟨cs,h1,h2,fun j hj=>?_⟩;obtain⟨c,a,b⟩:=h3 j hj;obtain⟨c',a',b'⟩:=h3' j hj;rw[a]at a';injection a' with a';subst a';exact⟨c,a,ih j _ b b'⟩
   |agg n get ih=>
    rintro v ⟨cs,h1,h2,h3⟩ ⟨cs',h1',h2',h3'⟩
    rw[h1]at h1';injection h1' with h1';subst h1';refine⟨cs,h1,h2,fun j hj=>?_⟩;obtain⟨c,a,p,b⟩:=h3 j hj;obtain⟨c',a',p',b'⟩:=h3' j hj;rw[a]at a';injection a' with a';subst a';exact⟨c,a,p,ih j _ b b'⟩
   |tup n get ih=>
    rintro v ⟨cs,h1,h2,h3⟩ ⟨cs',h1',h2',h3'⟩
    rw[h1]at h1';injection h1' with h1';subst h1';refine⟨cs,h1,h2,fun j hj=>?_⟩;obtain⟨c,a,b⟩:=h3 j hj;obtain⟨c',a',b'⟩:=h3' j hj;rw[a]at a';injection a' with a';subst a';exact⟨c,a,ih j _ b b'⟩
   |un=>exact fun _ _ _=>trivial
   |und=>exact fun _ _ h=>h
   |t x=>exact fun v _ h=>q79 (u:=.t x) r3 (fun H M H' ι' F w v (h:Reads F w x v)=>(show Reads F w x v from h)) v h
   |qb7=>exact fun _ _ h=>h
   |qek=>exact fun _ _ h=>h
   |qel=>exact fun _ _ h=>h
   |qem=>exact fun _ _ h=>h
   |fp k g=>exact fun v _ h=>q79 (u:=.fp k g) r3 (fun H M H' ι' F w v (h:∃b o,v=.pointer (some ⟨b,o,none⟩)/\F b/\∀j,j<k->∃c,w.cell? ⟨b,o+j,none⟩=some c/\Reads F w (g j) c)=>h) v h
  exact fun u v h=>key u v h (r.ext u v h)
end Go.Abs
namespace Go.Abs
open Go
inductive Sh where
 |un
 |b
 |i (k:IntKind)
 |s
 |fz (U:Ty)
 |st (n:Nat)
 |fp (U:Ty) (c:Nat)
 |qb7
 |qek
 |qel
 |qem
 |qju
 |ptr (id c:Nat)
 |q3v (id c:Nat)
 |part (id:Nat)
 |full (id:Nat)
 |qca (id:Nat)
 |agg (l:List Sh)
 |tup (l:List Sh)
 |fn (f:FuncId) (l:List Sh)
inductive OSh where
 |dead
 |lst (e:TypeId) (U:Ty)
 |box (e:TypeId) (U:Ty)
 |cells (e:TypeId) (l:List Sh)
 |mp (s:Bool) (U:Ty)
section
variable [SU] [qa3]
mutual
@[reducible] def Sh.D:Sh->Type
 |.un=>Unit
 |.b=>Bool
 |.i _=>Int
 |.s=>ByteArray
 |.fz U=>List U.D
 |.st n=>SU.D n
 |.fp U _=>U.D
 |.qb7=>Unit
 |.qek=>Unit
 |.qel=>Unit
 |.qem=>Unit
 |.qju=>Unit
 |.ptr _ _=>Unit
 |.q3v _ _=>Nat
 |.part _=>Nat×Nat
 |.full _=>Unit
 |.qca _=>Unit
 |.agg l=>DS l
 |.tup l=>DS l
 |.fn _ l=>DS l
@[reducible] def DS:List Sh->Type
 |[]=>Unit
 |a::l=>a.D×DS l
end
@[reducible] def OSh.D:OSh->Type
 |.dead=>Unit
 |.lst _ U=>List U.D
 |.box _ U=>U.D
 |.cells _ l=>DS l
 |.mp _ U=>qb1->Option U.D
@[reducible] def DO:List OSh->Type
 |[]=>Unit
 |a::l=>a.D×DO l
@[reducible] def DT:List (Nat×Sh)->Type
 |[]=>Unit
 |(_,a)::l=>a.D×DT l
mutual
def mkE:(a:Sh)->a.D->EV
 |.un,_=>.un
 |.b,x=>.b x
 |.i k,x=>.i k x
 |.s,x=>.s x
 |.fz U,x=>.fz U x
 |.st n,x=>.st n x
 |.fp U c,x=>.fp U x c
 |.qb7,_=>.qb7
 |.qek,_=>.qek
 |.qel,_=>.qel
 |.qem,_=>.qem
 |.qju,_=>.qju
 |.ptr id c,_=>.ptr id [] 0 c
 |.q3v id c,r=>.ptr id [] r c
 |.part id,r=>.qbo id [] r.1 r.2
 |.full id,_=>.qa7 id []
 |.qca id,_=>.qca id
 |.agg l,x=>.agg (qn3 l x)
 |.tup l,x=>.tup (qn3 l x)
 |.fn f l,x=>.fn f (qn3 l x)
def qn3:(l:List Sh)->DS l->List EV
 |[],_=>[]
 |a::l,x=>mkE a x.1::qn3 l x.2
end
def mkO:(o:OSh)->o.D->OD
 |.dead,_=>.dead
 |.lst e U,l=>.lst ⟨e,U,l⟩
 |.box e U,x=>.lst ⟨e,U,[x]⟩
 |.cells e l,x=>.cells e (qn3 l x)
 |.mp s U,g=>.mp s U g
def qp7:(l:List (Nat×Sh))->DT l->Nat->EV
 |[],_,_=>.un
 |(t,a)::l,x,y=>bif Nat.beq y t then mkE a x.1 else qp7 l x.2 y
def mkObj:(l:List OSh)->DO l->Nat->OD
 |[],_,_=>.none
 |o::_,x,0=>mkO o x.1
 |_::l,x,j+1=>mkObj l x.2 j
def mkH(lo:Nat)(os:List OSh)(y:DO os):qad:=⟨os.length,lo,mkObj os y,[]⟩
def qia:List (Option Nat)->Nat->Option Nat
 |[],_=>none
 |a::_,0=>a
 |_::l,j+1=>qia l j
def isK(ks:List (Option Nat))(j k:Nat):Bool:=match qia ks j with
 |some x=>Nat.beq x k
 |none=>false
def noK:List (Option Nat)->Nat->Bool
 |[],_=>false
 |none::_,0=>true
 |some _::_,0=>false
 |_::l,j+1=>noK l j
theorem qhh{ks:List (Option Nat)}{j k:Nat}(h:isK ks j k=true):qia ks j=some k:=by
 unfold isK at h;split at h
 ·rename_i x hx;rw[hx,zi6 h]
 ·cases h
theorem qt8:∀ {ks:List (Option Nat)} {j:Nat},noK ks j=true->qia ks j=none/\j<ks.length
 |[],_,h=>by cases h
 |none::_,0,h=>⟨rfl,by simp⟩
 |some _::_,0,h=>by cases h
 |none::l,j+1,h=>by obtain⟨h1,h2⟩:=qt8 (ks:=l) (j:=j) h;exact⟨h1,by simpa using h2⟩
 |some _::l,j+1,h=>by obtain⟨h1,h2⟩:=qt8 (ks:=l) (j:=j) h;exact⟨h1,by simpa using h2⟩
theorem qp4:∀ {ks:List (Option Nat)} {j k:Nat},qia ks j=some k->j<ks.length
 |[],_,_,h=>by cases h
 |_::_,0,_,_=>by simp
 |_::l,j+1,k,h=>by have:=qp4 (ks:=l) (j:=j) h;simpa using this
mutual
def exE(ks:List (Option Nat)):(a:Sh)->EV->Option a.D
 |.un,_=>some ()
 |.b,.b x=>some x
 |.i k,.i k' n=>bif qdy k k' then some n else none
 |.s,.s x=>some x
 |.fz U,.fz τ' l=>qbq List τ' U l
 |.fz _,.qb7=>some []
 |.st n,.st k x=>quq SU.D k n x
 |.st n,.agg l=>bif qa3.fro n then qa3.make n l else none
 |.fp U c,.fp τ' x c'=>bif Nat.beq c c' then qbq (fun X=>X) τ' U x else none
 |.qb7,.qb7=>some ()
 |.qek,.qek=>some ()
 |.qel,.qel=>some ()
 |.qem,.qem=>some ()
 |.qju,.qju=>some ()
 |.ptr id c,.ptr k p r c'=>match p with
  |[]=>bif Nat.beq r 0&&Nat.beq c c'&&isK ks id k then some ()else none
  |_=>none
 |.q3v id c,.ptr k p r c'=>match p with
  |[]=>bif Nat.beq c c'&&isK ks id k then some r else none
  |_=>none
 |.part id,.qbo k p r n=>match p with
  |[]=>bif isK ks id k then some (r,n)else none
  |_=>none
 |.full id,.qa7 k p=>match p with
  |[]=>bif isK ks id k then some ()else none
  |_=>none
 |.full id,.qb7=>bif noK ks id then some ()else none
 |.qca id,.qca k=>bif isK ks id k then some ()else none
 |.agg l,.agg m=>qx7 ks l m
 |.agg l,.st k x=>bif qa3.fro k then qx7 ks l (qdc 0 [] (.st k) x 0 0 (SU.sz k))else none
 |.tup l,.tup m=>qx7 ks l m
 |.fn f l,.fn g m=>bif Nat.beq f g then qx7 ks l m else none
 |_,_=>none
def qx7(ks:List (Option Nat)):(l:List Sh)->List EV->Option (DS l)
 |[],[]=>some ()
 |a::l,u::m=>match exE ks a u with
  |some x=>match qx7 ks l m with
   |some y=>some (x,y)
   |none=>none
  |none=>none
 |_,_=>none
end
def exO(ks:List (Option Nat))(k:Nat):(o:OSh)->OD->Option o.D
 |.dead,_=>some ()
 |.lst e U,.lst v=>bif Nat.beq v.e e then qbq List v.U U v.l else none
 |.box e U,.lst ⟨e',τ',[x]⟩=>bif Nat.beq e' e then qbq (fun X=>X) τ' U x else none
 |.cells e l,.cells e' m=>bif Nat.beq e' e then qx7 ks l m else none
 |.cells e l,.lst ⟨e',τ',[x]⟩=>bif Nat.beq e' e&&qkb τ' then qx7 ks l (qdc k [] τ' x 0 0 τ'.sz)else none
 |.mp s U,.mp s' τ' g=>bif s==s' then qbq (fun X=>qb1->Option X) τ' U g else none
 |_,_=>none
def exV:(o:OSh)->Option o.D
 |.dead=>some ()
 |.lst _ _=>some []
 |_=>none
def qo5(ks:List (Option Nat))(H:qad):(l:List OSh)->List (Option Nat)->Option (DO l)
 |[],[]=>some ()
 |o::l,some k::m=>match exO ks k o (H.obj k)with
  |some x=>match qo5 ks H l m with
   |some y=>some (x,y)
   |none=>none
  |none=>none
 |o::l,none::m=>match exV o with
  |some x=>match qo5 ks H l m with
   |some y=>some (x,y)
   |none=>none
  |none=>none
 |_,_=>none
def exT(ks:List (Option Nat))(env:Nat->EV):(l:List (Nat×Sh))->Option (DT l)
 |[]=>some ()
 |(t,a)::l=>match exE ks a (env t)with
  |some x=>match exT ks env l with
   |some y=>some (x,y)
   |none=>none
  |none=>none
mutual
def ze2:Sh->EV->List (Nat×Option Nat)->List (Nat×Option Nat)
 |.ptr id _,.ptr k _ _ _,b=>(id,some k)::b
 |.q3v id _,.ptr k _ _ _,b=>(id,some k)::b
 |.part id,.qbo k _ _ _,b=>(id,some k)::b
 |.full id,.qa7 k _,b=>(id,some k)::b
 |.full id,.qb7,b=>(id,none)::b
 |.qca id,.qca k,b=>(id,some k)::b
 |.agg l,.agg m,b=>qs7 l m b
 |.tup l,.tup m,b=>qs7 l m b
 |.fn _ l,.fn _ m,b=>qs7 l m b
 |_,_,b=>b
def qs7:List Sh->List EV->List (Nat×Option Nat)->List (Nat×Option Nat)
 |a::l,u::m,b=>qs7 l m (ze2 a u b)
 |_,_,b=>b
end
def q6w(env:Nat->EV):List (Nat×Sh)->List (Nat×Option Nat)->List (Nat×Option Nat)
 |[],b=>b
 |(t,a)::l,b=>q6w env l (ze2 a (env t) b)
def zae:List (Nat×Option Nat)->Nat->Option (Option Nat)
 |[],_=>none
 |(i,k)::l,j=>bif Nat.beq i j then some k else zae l j
def quy(H:qad):List OSh->Nat->List (Nat×Option Nat)->List (Nat×Option Nat)
 |[],_,b=>b
 |.cells _ l::os,j,b=>match zae b j with
  |some (some k)=>match H.obj k with
   |.cells _ m=>quy H os (j+1) (qs7 l m b)
   |_=>quy H os (j+1) b
  |_=>quy H os (j+1) b
 |_::os,j,b=>quy H os (j+1) b
def zfl(b:List (Nat×Option Nat)):List OSh->Nat->List (Option Nat)
 |[],_=>[]
 | _::os,j=>(match zae b j with
  |some k=>k
  | none=>none)::zfl b os (j+1)
def zbv(k:Nat):List (Option Nat)->Bool
 |[]=>false
 |some x::l=>Nat.beq x k||zbv k l
 |none::l=>zbv k l
def qq9:List (Option Nat)->Bool
 |[]=>true
 |some x::l=>!zbv x l&&qq9 l
 |none::l=>qq9 l
def zfj:Nat->Nat->List (Option Nat)->List OSh->Bool
 |0,_,_,_=>true
 | n+1,j,k::ks,o::os=>(match o with
  |.dead=>true
  |_=>match k with
   |some k=>Nat.beq k j
   | none=>false)&&zfj n (j+1) ks os
 |_,_,_,_=>false
def zhc:Nat->Nat->List OSh->List (Nat×Option Nat)
 |0,_,_=>[]
 |_+1,_,[]=>[]
 |n+1,j,.dead::os=>zhc n (j+1) os
 |n+1,j,_::os=>(j,some j)::zhc n (j+1) os
end
end Go.Abs
namespace Go.Abs
open Go
section
variable {H H':qbh} {m:Id->Option Id} {Z:Id->Prop}
theorem KG.zh3{i j:Id}{r c:Nat}(hl:qa1 (H.slot i) (H'.slot j))(hm:m j=some i):KG H H' m Z (.ptr i 0 r c) (.ptr j 0 r c):=by
 rintro E M F w v rr ⟨h0,h1⟩
 refine⟨h0,?_⟩;cases hs':H'.slot j with
 |dead=>trivial
 |mp s g=>trivial
 |qae=>rw[hs']at hl;cases hs:H.slot i<;>rw[hs]at hl<;>exact hl.elim
 |live o'=>
  rw[hs']at hl;cases hs:H.slot i with
  |live o=>
   rw[hs]at hl h1;obtain⟨a,b,c,d⟩:=hl;show 0<=o'.ver/\_;rw[qce hm,a,c];exact h1
  |qae=>rw[hs]at hl;exact hl.elim
  |dead=>rw[hs]at hl;exact hl.elim
  |mp _ _=>rw[hs]at hl;exact hl.elim
theorem KG.q89{i j:Id}{r n:Nat}(hl:qa1 (H.slot i) (H'.slot j))(hm:m j=some i):KG H H' m Z (.qbo i 0 r n) (.qbo j 0 r n):=by
 rintro E M F w v rr ⟨h0,h1⟩
 refine⟨h0,?_⟩;cases hs':H'.slot j with
 |dead=>trivial
 |mp s g=>trivial
 |qae=>rw[hs']at hl;cases hs:H.slot i<;>rw[hs]at hl<;>exact hl.elim
 |live o'=>
  rw[hs']at hl;cases hs:H.slot i with
  |live o=>
   rw[hs]at hl h1;obtain⟨a,b,c,d⟩:=hl;show 0<=o'.ver/\_;rw[qce hm,a,b,c,d];exact h1
  |qae=>rw[hs]at hl;exact hl.elim
  |dead=>rw[hs]at hl;exact hl.elim
  |mp _ _=>rw[hs]at hl;exact hl.elim
theorem KG.zgx{i j:Id}(hl:qa1 (H.slot i) (H'.slot j))(hm:m j=some i):KG H H' m Z (.qca i) (.qca j):=by
 rintro E M F w v rr ⟨h0,h1⟩
 refine⟨h0,?_⟩;cases hs':H'.slot j with
 |dead=>trivial
 |live o'=>trivial
 |qae=>rw[hs']at hl;cases hs:H.slot i<;>rw[hs]at hl<;>exact hl.elim
 |mp s g=>
  rw[hs']at hl;cases hs:H.slot i with
  |mp _ _=>rw[hs]at h1;rw[qce hm];exact h1
  |qae=>rw[hs]at hl;exact hl.elim
  |dead=>rw[hs]at hl;exact hl.elim
  |live _=>rw[hs]at hl;exact hl.elim
theorem KG.zev{i j:Id}{r n r' n':Nat}(hd:H'.slot j=.dead):KG H H' m Z (.qbo i 0 r n) (.qbo j 0 r' n'):=fun E M F w v rr h=>⟨h.1,by rw[hd];trivial⟩
theorem KG.zew{i j:Id}{r n r' n':Nat}(hd:H'.slot j=.dead):KG H H' m Z (.ptr i 0 r n) (.ptr j 0 r' n'):=fun E M F w v rr h=>⟨h.1,by rw[hd];trivial⟩
theorem KG.zhi{i j:Id}(hd:H'.slot j=.dead):KG H H' m Z (.qca i) (.qca j):=fun E M F w v rr h=>⟨h.1,by rw[hd];trivial⟩
end
section
variable [SU] [qa3]
structure qiv(ks:List (Option Nat))(H H':qad)(m:Id->Option Id):Prop where
 sm:∀j k,qia ks j=some k->(toH H').slot ⟨j,[]⟩=.dead\/(qa1 ((toH H).slot ⟨k,[]⟩) ((toH H').slot ⟨j,[]⟩)/\H'.len j []=H.len k []/\m ⟨j,[]⟩=some ⟨k,[]⟩)
 nn:∀j,qia ks j=none->j<ks.length->(toH H').slot ⟨j,[]⟩=.dead\/∃o',(toH H').slot ⟨j,[]⟩=.live o'/\o'.ver=0/\H'.len j []=some 0
variable {ks:List (Option Nat)} {H H':qad} {m:Id->Option Id} {Z:Id->Prop}
theorem qiv.full(k:qiv ks H H' m){j i:Nat}(h:qia ks j=some i):KG (toH H) (toH H') m Z (toV H.len (.qa7 i [])) (toV H'.len (.qa7 j [])):=by
 simp only[toV];rcases k.sm j i h with hd|⟨h1,h2,h3⟩
 ·cases H.len i []<;>cases H'.len j []<;>exact KG.zev hd
 ·rw[h2];cases H.len i []<;>exact KG.q89 h1 h3
theorem qiv.nil(k:qiv ks H H' m){j:Nat}(h:qia ks j=none)(hl:j<ks.length):KG (toH H) (toH H') m Z .qb7 (toV H'.len (.qa7 j [])):=by
 simp only[toV];rcases k.nn j h hl with hd|⟨o',h1,h2,h3⟩
 ·have:∀n,KG (toH H) (toH H') m Z .qb7 (.qbo ⟨j,[]⟩ 0 0 n):=fun n E M F w v rr h=>by
   have h:v=.slice none 0 0:=h;subst h;exact⟨rfl,by rw[hd];trivial⟩
  cases H'.len j []<;>exact this _
 ·rw[h3];exact KG.zfb h1 h2.symm
mutual
theorem q8j(k:qiv ks H H' m):∀(a:Sh) (u:EV) (x:a.D),exE ks a u=some x->KG (toH H) (toH H') m Z (toV H.len u) (toV H'.len (mkE a x))
 |.un,u,x,h=>by simp only[mkE,toV];exact KG.un
 |.b,u,x,h=>by
  cases u<;>simp only[exE]at h<;>try(cases h;done)
  injection h with h;subst h;simp only[mkE,toV];exact KG.t _
 |.i k,u,x,h=>by
  cases u<;>simp only[exE]at h<;>try(cases h;done)
  have hh:=qah h;clear h;obtain⟨h1,h⟩:=hh;have:=qc6 h1;subst this;injection h with h;subst h;simp only[mkE,toV];exact KG.t _
 |.s,u,x,h=>by
  cases u<;>simp only[exE]at h<;>try(cases h;done)
  injection h with h;subst h;simp only[mkE,toV];exact KG.t _
 |.fz U,u,x,h=>by
  cases u<;>simp only[exE]at h<;>try(cases h;done)
  ·obtain⟨e,h⟩:=qa2 h;subst e;obtain rfl:=eq_of_heq h;simp only[mkE,toV];exact KG.t _
  ·injection h with h;subst h;simp only[mkE,toV,qyq];exact KG.zgu KG.qb7 (Wk.qb7 _ _)
 |.st n,u,x,h=>by
  cases u<;>simp only[exE]at h<;>try(cases h;done)
  ·obtain⟨e,h⟩:=qjm _ _ _ _ _ h;subst e;obtain rfl:=eq_of_heq h;simp only[mkE,toV];exact KG.agg fun j _=>KG.t _
  ·rename_i l;have hh:=qah h;clear h;obtain⟨hf,h⟩:=hh;obtain⟨m1,m2⟩:=qa3.qp9 _ _ _ h;simp only[mkE,toV,m1];refine KG.agg fun j hj=>?_;obtain⟨u',e1,e2⟩:=m2 j hj;obtain⟨u'',e1',e3⟩:=qa3.qee n x j hf;rw[e1]at e1';injection e1' with e1';subst e1';refine KG.qh9 (e2 H.len) ?_;rw[e3 hj];exact KG.t _
 |.fp U c,u,x,h=>by
  cases u<;>simp only[exE]at h<;>try(cases h;done)
  have hh:=qah h;clear h;obtain⟨hb,h⟩:=hh;obtain rfl:=qbj hb;obtain⟨e,h⟩:=qw1 h;subst e;obtain rfl:=eq_of_heq h;simp only[mkE,toV];exact KG.fp
 |.qb7,u,x,h=>by cases u<;>simp only[exE]at h<;>first|(cases h;done)|(simp only[mkE,toV];exact KG.qb7)
 |.qek,u,x,h=>by cases u<;>simp only[exE]at h<;>first|(cases h;done)|(simp only[mkE,toV];exact KG.qek)
 |.qel,u,x,h=>by cases u<;>simp only[exE]at h<;>first|(cases h;done)|(simp only[mkE,toV];exact KG.qel)
 |.qem,u,x,h=>by cases u<;>simp only[exE]at h<;>first|(cases h;done)|(simp only[mkE,toV];exact KG.qem)
 |.qju,u,x,h=>by cases u<;>simp only[exE]at h<;>first|(cases h;done)|(simp only[mkE,toV];exact KG.t _)
 |.ptr id c,u,x,h=>by
  cases u<;>simp only[exE]at h<;>try(cases h;done)
  rename_i i p r c';cases p with
  |cons _ _=>cases h
  |nil=>
   have hh:=qah h;clear h;obtain⟨hb,h⟩:=hh;simp only[zi4]at hb;obtain⟨⟨b1,b2⟩,b3⟩:=hb;obtain rfl:=qbj b1;obtain rfl:=qbj b2;simp only[mkE,toV];rcases k.sm id i (qhh b3)with hd|⟨h1,h2,h3⟩
   ·exact KG.zew hd
   ·exact KG.zh3 h1 h3
 |.q3v id c,u,x,h=>by
  cases u<;>simp only[exE]at h<;>try(cases h;done)
  rename_i i p r c';cases p with
  |cons _ _=>cases h
  |nil=>
   have hh:=qah h;clear h;obtain⟨hb,h⟩:=hh;simp only[zi4]at hb;obtain⟨b2,b3⟩:=hb;obtain rfl:=qbj b2;injection h with h;subst h;simp only[mkE,toV];rcases k.sm id i (qhh b3)with hd|⟨h1,h2,h3⟩
   ·exact KG.zew hd
   ·exact KG.zh3 h1 h3
 |.part id,u,x,h=>by
  cases u<;>simp only[exE]at h<;>try(cases h;done)
  rename_i i p r n;cases p with
  |cons _ _=>cases h
  |nil=>
   have hh:=qah h;clear h;obtain⟨hb,h⟩:=hh;injection h with h;subst h;simp only[mkE,toV];rcases k.sm id i (qhh hb)with hd|⟨h1,h2,h3⟩
   ·exact KG.zev hd
   ·exact KG.q89 h1 h3
 |.full id,u,x,h=>by
  cases u<;>simp only[exE]at h<;>try(cases h;done)
  ·rename_i i p;cases p with
   |cons _ _=>cases h
   |nil=>
    have hh:=qah h;clear h;obtain⟨hb,h⟩:=hh;simp only[mkE];exact k.full (qhh hb)
  ·have hh:=qah h;clear h;obtain⟨hb,h⟩:=hh;obtain⟨h1,h2⟩:=qt8 hb;simp only[mkE];rw[show toV H.len .qb7=.qb7 by simp only[toV]];exact k.nil h1 h2
 |.qca id,u,x,h=>by
  cases u<;>simp only[exE]at h<;>try(cases h;done)
  rename_i i;have hh:=qah h;clear h;obtain⟨hb,h⟩:=hh;simp only[mkE,toV];rcases k.sm id i (qhh hb)with hd|⟨h1,h2,h3⟩
  ·exact KG.zhi hd
  ·exact KG.zgx h1 h3
 |.agg l,u,x,h=>by
  cases u<;>simp only[exE]at h<;>try(cases h;done)
  ·rename_i k' y;have hh:=qah h;clear h;obtain⟨hf,h⟩:=hh;obtain⟨e1,e2⟩:=qiq k l _ x h;rw[qby]at e1;simp only[mkE,toV,<- e1];refine KG.agg fun j hj=>?_;have:=e2 j (by rw[qby];exact hj)
   rw[qd2 _ _ _ _ _ _ _ _ _ hj,zjf,qir (U:=.st k') hf hj]at this;exact this
  ·rename_i l';obtain⟨e1,e2⟩:=qiq k l l' x h;simp only[mkE,toV,<- e1];exact KG.agg fun j hj=>e2 j hj
 |.tup l,u,x,h=>by
  cases u<;>simp only[exE]at h<;>try(cases h;done)
  rename_i l';obtain⟨e1,e2⟩:=qiq k l l' x h;simp only[mkE,toV,<- e1];exact KG.tup fun j hj=>e2 j hj
 |.fn f l,u,x,h=>by
  cases u<;>simp only[exE]at h<;>try(cases h;done)
  rename_i f' l';have hh:=qah h;clear h;obtain⟨hb,h⟩:=hh;obtain rfl:=qbj hb;obtain⟨e1,e2⟩:=qiq k l l' x h;simp only[mkE,toV,<- e1];exact KG.fn fun j hj=>e2 j hj
theorem qiq(k:qiv ks H H' m):∀(l:List Sh) (us:List EV) (x:DS l),qx7 ks l us=some x->us.length=(qn3 l x).length/\∀j,j<us.length->KG (toH H) (toH H') m Z (qa4 H.len us j) (qa4 H'.len (qn3 l x) j)
 |[],us,x,h=>by
  cases us with
  |nil=>exact⟨rfl,fun j hj=>absurd hj (zjj _)⟩
  |cons _ _=>cases h
 |a::l,us,x,h=>by
  cases us with
  |nil=>cases h
  |cons u us=>
   simp only[qx7]at h;split at h
   ·rename_i x1 h1;split at h
    ·rename_i x2 h2;injection h with h;subst h;have e:=q8j k a u x1 h1;obtain⟨e1,e2⟩:=qiq k l us x2 h2;refine⟨by simp only[qn3,zi9,e1],fun j hj=>?_⟩;cases j with
     |zero=>simp only[qn3,qa4];exact e
     |succ j=>simp only[qn3,qa4];exact e2 j (by simpa using hj)
    ·cases h
   ·cases h
end
theorem qo4(k:qiv ks H H' m){env:Nat->EV}:∀(l:List (Nat×Sh)) (x:DT l),exT ks env l=some x->∀t,KG (toH H) (toH H') m Z (toV H.len (env t)) (toV H'.len (qp7 l x t))
 |[],x,h,t=>by simp only[qp7,toV];exact KG.un
 |(r,a)::l,x,h,t=>by
  simp only[exT]at h;split at h
  ·rename_i x1 h1;split at h
   ·rename_i x2 h2;injection h with h;subst h;simp only[qp7];cases hb:Nat.beq t r with
    |true=>obtain rfl:=qbj hb;exact q8j k a _ x1 h1
    |false=>exact qo4 k l x2 h2 t
   ·cases h
  ·cases h
def q74:List OSh->Nat->Option OSh
 |[],_=>none
 |o::_,0=>some o
 |_::l,j+1=>q74 l j
theorem qip{H:qad}:∀(l:List OSh) (ms:List (Option Nat)) (y:DO l),qo5 ks H l ms=some y->l.length=ms.length/\∀j,j<l.length->∃o,q74 l j=some o /\
  ((∃k x,qia ms j=some k/\exO ks k o (H.obj k)=some x/\mkObj l y j=mkO o x)\/(∃x,qia ms j=none/\exV o=some x/\mkObj l y j=mkO o x))
 |[],ms,y,h=>by
  cases ms with
  |nil=>exact⟨rfl,fun j hj=>absurd hj (zjj _)⟩
  |cons a ms=>cases a<;>cases h
 |o::l,ms,y,h=>by
  cases ms with
  |nil=>cases h
  |cons a ms=>
   cases a with
   |some k=>
    simp only[qo5]at h;split at h
    ·rename_i x1 h1;split at h
     ·rename_i x2 h2;injection h with h;subst h;obtain⟨e1,e2⟩:=qip l ms x2 h2;refine⟨by simp[e1],fun j hj=>?_⟩;cases j with
      |zero=>exact⟨o,rfl,.inl ⟨k,x1,rfl,h1,rfl⟩⟩
      |succ j=>exact e2 j (by simpa using hj)
     ·cases h
    ·cases h
   |none=>
    simp only[qo5]at h;split at h
    ·rename_i x1 h1;split at h
     ·rename_i x2 h2;injection h with h;subst h;obtain⟨e1,e2⟩:=qip l ms x2 h2;refine⟨by simp[e1],fun j hj=>?_⟩;cases j with
      |zero=>exact⟨o,rfl,.inr ⟨x1,rfl,h1,rfl⟩⟩
      |succ j=>exact e2 j (by simpa using hj)
     ·cases h
    ·cases h
theorem qfy:∀(l:List OSh) (y:DO l) (j:Nat),l.length<=j->mkObj l y j=.none
 |[],_,_,_=>rfl
 |_::l,y,0,h=>by simp at h
 |_::l,y,j+1,h=>qfy l y.2 j (by simpa using h)
def mK(ks:List (Option Nat)):Id->Option Id:=fun i=>match qia ks i.k with
 |some k=>some ⟨k,i.p⟩
 |none=>none
inductive qu5(H:qad)(k:Nat)(ks:List (Option Nat)):(o:OSh)->o.D->Prop where
 |dead {x:Unit}:qu5 H k ks .dead x
 |lst {e:TypeId} {U:Ty} {l:List U.D} (ho:H.obj k=.lst ⟨e,U,l⟩):qu5 H k ks (.lst e U) l
 |box {e:TypeId} {U:Ty} {x:U.D} (ho:H.obj k=.lst ⟨e,U,[x]⟩):qu5 H k ks (.box e U) x
 |cells {e:TypeId} {l:List Sh} {m:List EV} {x:DS l} (ho:H.obj k=.cells e m) (hx:qx7 ks l m=some x):qu5 H k ks (.cells e l) x
 |zhk {e:TypeId} {l:List Sh} {U:Ty} {z:U.D} {x:DS l} (ho:H.obj k=.lst ⟨e,U,[z]⟩) (hf:qkb U=true) (hx:qx7 ks l (qdc k [] U z 0 0 U.sz)=some x):qu5 H k ks (.cells e l) x
 |mp {s:Bool} {U:Ty} {g:qb1->Option U.D} (ho:H.obj k=.mp s U g):qu5 H k ks (.mp s U) g
theorem qqw{H:qad}{k:Nat}:∀(o:OSh) (x:o.D),exO ks k o (H.obj k)=some x->qu5 H k ks o x
 |.dead,x,h=>.dead
 |.lst e U,x,h=>by
  cases ho:H.obj k<;>rw[ho]at h<;>simp only[exO]at h<;>try(cases h;done)
  rename_i v;obtain⟨ve,vτ,vl⟩:=v;have hh:=qah h;clear h;obtain⟨hb,h⟩:=hh;obtain rfl:=qbj hb;obtain⟨e1,h⟩:=qa2 h;simp only at e1;subst e1;obtain rfl:=eq_of_heq h;exact .lst ho
 |.box e U,x,h=>by
  cases ho:H.obj k<;>rw[ho]at h<;>try(cases h;done)
  rename_i v;obtain⟨ve,vτ,vl⟩:=v
  match vl,h,ho with
  |[],h,ho=>cases h
  |[z],h,ho=>
   simp only[exO]at h;have hh:=qah h;clear h;obtain⟨hb,h⟩:=hh;obtain rfl:=qbj hb;obtain⟨e1,h⟩:=qw1 h;subst e1;obtain rfl:=eq_of_heq h;exact .box ho
  |_::_::_,h,ho=>cases h
 |.cells e l,x,h=>by
  cases ho:H.obj k<;>rw[ho]at h<;>try(cases h;done)
  ·rename_i v;obtain⟨ve,vτ,vl⟩:=v
   match vl,h,ho with
   |[],h,ho=>cases h
   |[z],h,ho=>
    simp only[exO]at h;have hh:=qah h;clear h;obtain⟨hb,h⟩:=hh;simp only[zi4]at hb;obtain rfl:=qbj hb.1;exact .zhk ho hb.2 h
   |_::_::_,h,ho=>cases h
  ·simp only[exO]at h;have hh:=qah h;clear h;obtain⟨hb,h⟩:=hh;obtain rfl:=qbj hb;exact .cells ho h
 |.mp s U,x,h=>by
  cases ho:H.obj k<;>rw[ho]at h<;>simp only[exO]at h<;>try(cases h;done)
  have hh:=qah h;clear h;obtain⟨hb,h⟩:=hh;obtain rfl:=eq_of_beq hb;obtain⟨e1,h⟩:=qjn _ _ _ _ _ h;subst e1;obtain rfl:=eq_of_heq h;exact .mp ho
end
end Go.Abs
namespace Go.Abs
open Go
section
variable [SU] [qa3]
variable {ks:List (Option Nat)} {H:qad} {lo:Nat} {os:List OSh} {y:DO os}
theorem qfd{j:Nat}{p:List Nat}:(toH (mkH lo os y)).slot ⟨j,p⟩=(mkObj os y j).slot (mkH lo os y).len j p:=rfl
theorem q1d{j:Nat}{p:List Nat}:(mkH lo os y).len j p=(mkObj os y j).len p:=rfl
theorem qlj:∀ {l:List (Option Nat)} {k j:Nat},qia l j=some k->zbv k l=true
 |[],_,_,h=>by cases h
 |some x::l,k,0,h=>by injection h with h;subst h;simp[zbv]
 |none::l,k,0,h=>by cases h
 |some x::l,k,j+1,h=>by simp only[zbv,zj7];exact .inr (qlj (l:=l) h)
 |none::l,k,j+1,h=>qlj (l:=l) h
theorem qli:∀ {l:List (Option Nat)} {i j k:Nat},qq9 l=true->qia l i=some k->qia l j=some k->i=j
 |[],_,_,_,_,h,_=>by cases h
 |some x::l,0,0,k,_,_,_=>rfl
 |none::l,0,_,k,_,h,_=>by cases h
 |none::l,_+1,0,k,_,_,h=>by cases h
 |none::l,i+1,j+1,k,hn,h1,h2=>by rw[qli (l:=l) hn h1 h2]
 |some x::l,0,j+1,k,hn,h1,h2=>by
  injection h1 with h1;subst h1;simp only[qq9,zi4,zjo]at hn;rw[qlj (l:=l) h2]at hn;cases hn.1
 |some x::l,i+1,0,k,hn,h1,h2=>by
  injection h2 with h2;subst h2;simp only[qq9,zi4,zjo]at hn;rw[qlj (l:=l) h1]at hn;cases hn.1
 |some x::l,i+1,j+1,k,hn,h1,h2=>by
  simp only[qq9,zi4]at hn;rw[qli (l:=l) hn.2 h1 h2]
theorem qnk{len:Len}{k:Nat}{e:TypeId}{l:List EV}{p:List Nat}{o':qc1}(h:(OD.cells e l).slot len k p=.live o'):p=[]/\o'={ elem:=e,sz:=l.length,ver:=0,n:=1,get:=fun _ c=>qa4 len l c }:=by
 cases p with
 |cons _ _=>cases h
 |nil=>injection h with h;exact⟨rfl,h.symm⟩
theorem qk1{j k:Nat}{p:List Nat}(h:qia ks j=some k):mK ks ⟨j,p⟩=some ⟨k,p⟩:=by simp only[mK,h]
theorem zg1{j:Nat}{p:List Nat}(h:qia ks j=none):mK ks ⟨j,p⟩=none:=by simp only[mK,h]
theorem q5y{H H':qad}{j k:Nat}{v:LV}(ho:H.obj k=.lst v)(ho':H'.obj j=.lst v){m:Id->Option Id}{Z:Id->Prop}(hm:∀p,m ⟨j,p⟩=some ⟨k,p⟩) :
  ∀p o',(toH H').slot ⟨j,p⟩=.live o'->∃o,(toH H).slot ⟨k,p⟩=.live o/\o'.ver=o.ver/\o'.elem=o.elem/\o'.sz=o.sz/\o'.n=o.n/\∀r,r<o'.n->∀c,c<o'.sz->KG (toH H) (toH H') m Z (o.get r c) (o'.get r c):=fun p o' h=>by
 have h:(H'.obj j).slot H'.len j p=.live o':=h;rw[ho']at h;simp only[OD.slot]at h;cases hv:v.at p with
 |none=>rw[hv]at h;cases h
 |some a=>
  rw[hv]at h;injection h with h;subst h;have hat:H.at k p=some a:=by simp only[qad.at,ho];exact hv
  have hat':H'.at j p=some a:=by simp only[qad.at,ho'];exact hv
  refine⟨_,qb2 hat,rfl,rfl,rfl,rfl,fun r hr c hc=>?_⟩;show KG _ _ _ _ (qbg H.len k p r c (qao a.U (a.row r) c)) (qbg H'.len j p r c (qao a.U (a.row r) c));cases hcc:qao a.U (a.row r) c with
  |ev u=>exact KG.dat (qbi _ _ _ _ hcc)
  |own t e l=>
   have h1:(toH H).slot ⟨k,p++[c,r]⟩=.live (LV.obj H.len k (p++[c,r]) ⟨t,e,l⟩):=qb2 (by rw[qad.qbu hat,LV.at_one,LV.qec hcc]);have h2:(toH H').slot ⟨j,p++[c,r]⟩=.live (LV.obj H'.len j (p++[c,r]) ⟨t,e,l⟩):=qb2 (by rw[qad.qbu hat',LV.at_one,LV.qec hcc]);exact KG.q89 (by rw[h1,h2];exact⟨rfl,rfl,rfl,rfl⟩) (hm _)
theorem qgf(h:qo5 ks H os ks=some y):qiv ks H (mkH lo os y) (mK ks):=by
 obtain⟨e1,e2⟩:=qip os ks y h;refine⟨fun j k hj=>?_,fun j hj hl=>?_⟩
 ·obtain⟨o,-,hx⟩:=e2 j (by rw[e1];exact qp4 hj)
  rcases hx with⟨k',x,q1,q2,q3⟩|⟨x,q1,q2,q3⟩
  ·rw[hj]at q1;injection q1 with q1;subst q1;rw[qfd,q1d,q3];have rd:=qqw o x q2;cases rd with
   |dead=>exact .inl rfl
   |lst ho=>exact .inr ⟨by show qa1 ((H.obj k).slot H.len k []) _;rw[ho,qcf];simp only[mkO];rw[qcf];exact⟨rfl,rfl,rfl,rfl⟩,by unfold qad.len;rw[ho];rfl,qk1 hj⟩
   |box ho=>exact .inr ⟨by show qa1 ((H.obj k).slot H.len k []) _;rw[ho,qcf];simp only[mkO];rw[qcf];exact⟨rfl,rfl,rfl,rfl⟩,by unfold qad.len;rw[ho];rfl,qk1 hj⟩
   |cells ho hx=>
    refine .inr ⟨?_,by unfold qad.len;rw[ho];rfl,qk1 hj⟩
    have:=(qdh ho)
    rw[this];exact⟨rfl,rfl,(qqx _ _ _ hx).symm,rfl⟩
   |zhk ho hf hx=>
    refine .inr ⟨?_,by unfold qad.len;rw[ho];simp only[mkO,OD.len,LV.qa8];rfl,qk1 hj⟩
    show qa1 ((H.obj k).slot H.len k []) _;rw[ho,qcf];have:=qqx _ _ _ hx;rw[qby]at this;exact⟨rfl,rfl,this.symm,rfl⟩
   |mp ho=>exact .inr ⟨by show qa1 ((H.obj k).slot H.len k []) _;rw[ho];trivial,by unfold qad.len;rw[ho];rfl,qk1 hj⟩
  ·rw[hj]at q1;cases q1
 ·obtain⟨o,-,hx⟩:=e2 j (by rw[e1];exact hl)
  rcases hx with⟨k',x,q1,q2,q3⟩|⟨x,q1,q2,q3⟩
  ·rw[hj]at q1;cases q1
  ·rw[qfd,q1d,q3];cases o with
   |dead=>exact .inl rfl
   |lst e U=>
    simp only[exV]at q2;injection q2 with q2;subst q2;refine .inr ⟨_,qcf,rfl,?_⟩;simp only[mkO,OD.len,LV.qa8];rfl
   |_=>cases q2
where
 qqx:∀(l:List Sh) (us:List EV) (x:DS l),qx7 ks l us=some x->us.length=(qn3 l x).length
  |[],us,x,h=>by cases us<;>first|rfl|cases h
  |a::l,us,x,h=>by
   cases us with
   |nil=>cases h
   |cons u us=>
    simp only[qx7]at h;split at h
    ·split at h
     ·rename_i x2 h2;injection h with h;subst h;simp only[qn3,zi9,qqx l us x2 h2]
     ·cases h
    ·cases h
theorem q08{Z:Id->Prop}(h:qo5 ks H os ks=some y):∀i o',(toH (mkH lo os y)).slot i=.live o'->(mK ks i=none/\o'.n=0)\/∃x o,mK ks i=some x/\(toH H).slot x=.live o/\o'.ver=o.ver/\o'.elem=o.elem/\o'.sz=o.sz/\o'.n=o.n /\
  ∀r,r<o'.n->∀c,c<o'.sz->KG (toH H) (toH (mkH lo os y)) (mK ks) Z (o.get r c) (o'.get r c):=by
 have hR:qiv ks H (mkH lo os y) (mK ks):=qgf h;obtain⟨e1,e2⟩:=qip os ks y h
 rintro⟨j,p⟩ o' hl
 by_cases hj:j<os.length
 ·obtain⟨o,-,hx⟩:=e2 j hj;rcases hx with⟨k,x,q1,q2,q3⟩|⟨x,q1,q2,q3⟩
  ·right
   have rd:=qqw o x q2;have same:∀ {e:TypeId} {U:Ty} {l:List U.D},H.obj k=.lst ⟨e,U,l⟩->mkO o x=.lst ⟨e,U,l⟩->∃x o,mK ks ⟨j,p⟩=some x/\(toH H).slot x=.live o/\o'.ver=o.ver/\o'.elem=o.elem/\o'.sz=o.sz/\o'.n=o.n /\
     ∀r,r<o'.n->∀c,c<o'.sz->KG (toH H) (toH (mkH lo os y)) (mK ks) Z (o.get r c) (o'.get r c):=fun ho1 ho2=>by
    obtain⟨o1,r1,r2,r3,r4,r5,r6⟩:=q5y (H:=H) (H':=mkH lo os y) (j:=j) (k:=k) (m:=mK ks) (Z:=Z) ho1 (q3.trans ho2) (fun p=>qk1 q1) p o' hl;exact⟨⟨k,p⟩,o1,qk1 q1,r1,r2,r3,r4,r5,r6⟩
   rw[qfd,q3]at hl;cases rd with
   |dead=>cases hl
   |lst ho=>exact same ho rfl
   |box ho=>exact same ho rfl
   |@cells e l ms x ho hx=>
    obtain⟨rfl,rfl⟩:=qnk hl;obtain⟨f1,f2⟩:=qiq hR l ms x hx (Z:=Z);refine⟨⟨k,[]⟩,_,qk1 q1,qdh ho,rfl,rfl,f1.symm,rfl,fun r hr c hc=>?_⟩;exact f2 c (by rw[f1];exact hc)
   |@zhk e l U z x ho hf hx=>
    obtain⟨rfl,rfl⟩:=qnk hl;obtain⟨f1,f2⟩:=qiq hR l _ x hx (Z:=Z);have hat:H.at k []=some ⟨e,U,[z]⟩:=by simp only[qad.at,ho,LV.qa8]
    rw[qby]at f1 f2;refine⟨⟨k,[]⟩,_,qk1 q1,qb2 hat,rfl,rfl,f1.symm,rfl,fun r hr c hc=>?_⟩;have hc:c<(qn3 l x).length:=hc;have hr:r<1:=hr;obtain rfl:r=0:=by omega
    have:=f2 c (by omega);rw[qd2 _ _ _ _ _ _ _ _ _ (by omega),zjf]at this;have e3:=qnm (v:=⟨e,U,[z]⟩) hat 0 c;have e4:LV.row ⟨e,U,[z]⟩ 0=z:=rfl;rw[e4]at e3;rw[e3]at this;exact this
   |mp ho=>simp only[mkO]at hl;cases p<;>cases hl
  ·left
   refine⟨zg1 q1,?_⟩;rw[qfd,q3]at hl;cases o with
   |dead=>cases hl
   |lst e U=>
    simp only[exV]at q2;injection q2 with q2;subst q2;simp only[mkO,OD.slot]at hl;cases ha:LV.at ⟨e,U,[]⟩ p with
    |none=>rw[ha]at hl;cases hl
    |some w=>
     rw[ha]at hl;injection hl with hl;subst hl;show w.l.length=0;rw[LV.qgp _ _ _ rfl ha];rfl
   |_=>cases q2
 ·rw[qfd,qfy os y j (zj9 hj)]at hl;cases hl
theorem q1e{Z:Id->Prop}(h:qo5 ks H os ks=some y):∀i s g',(toH (mkH lo os y)).slot i=.mp s g'->∃x g,mK ks i=some x/\(toH H).slot x=.mp s g/\∀k,(g k=none/\g' k=none)\/∃u u',g k=some u/\g' k=some u'/\KG (toH H) (toH (mkH lo os y)) (mK ks) Z u u':=by
 obtain⟨e1,e2⟩:=qip os ks y h
 rintro⟨j,p⟩ s g' hl
 by_cases hj:j<os.length
 ·obtain⟨o,-,hx⟩:=e2 j hj;rw[qfd]at hl;obtain⟨U,g,r1,r2,r3⟩:=ql2 hl;rcases hx with⟨k,x,q1,q2,q3⟩|⟨x,q1,q2,q3⟩
  ·rw[q3]at r1;have rd:=qqw o x q2;cases rd with
   |mp ho=>
    injection r1 with a b c;subst a;subst b;obtain rfl:=eq_of_heq c;subst r2;refine⟨⟨k,[]⟩,g',qk1 q1,by show(H.obj k).slot _ _ _=_;rw[ho,r3];rfl,fun key=>?_⟩
    subst r3;dsimp only;split
    ·exact .inr ⟨_,_,rfl,rfl,KG.t _⟩
    ·exact .inl ⟨rfl,rfl⟩
   |_=>cases r1
  ·rw[q3]at r1;cases o with
   |mp s U=>cases q2
   |_=>cases r1
 ·rw[qfd,qfy os y j (zj9 hj)]at hl;cases hl
theorem q76(hn:qq9 ks=true){i j x:Id}(h1:mK ks i=some x)(h2:mK ks j=some x):i=j:=by
 obtain⟨a,p⟩:=i;obtain⟨b,q⟩:=j;simp only[mK]at h1 h2;cases ha:qia ks a with
 |none=>rw[ha]at h1;cases h1
 |some k=>
  cases hb:qia ks b with
  |none=>rw[hb]at h2;cases h2
  |some k'=>
   rw[ha]at h1;rw[hb]at h2;injection h1 with h1;injection h2 with h2;subst h1;injection h2 with h2 h3;subst h2;subst h3;rw[qli hn ha hb]
theorem qv6:Nx (toH (mkH lo os y)):=fun i hi=>by
 obtain⟨j,p⟩:=i;have hi:os.length<=j:=hi;rw[qfd,qfy os y j hi];rfl
theorem qj7(h:qo5 ks H os ks=some y)(hn:qq9 ks=true):Part (toH H) (toH (mkH os.length os y)) (mK ks) where
 next:=qv6
 lo:=rfl
 obj:=q08 h
 mp:=q1e h
 inj i j x _ _ h1 h2:=q76 hn h1 h2
theorem qwa:∀ {n j:Nat} {ks:List (Option Nat)} {os:List OSh},zfj n j ks os=true->∀i,i<n->q74 os i=some .dead\/qia ks i=some (j+i)
 |0,_,_,_,_,i,hi=>absurd hi (zjj _)
 |n+1,j,[],_,h,i,hi=>by cases h
 |n+1,j,_::_,[],h,i,hi=>by cases h
 |n+1,j,k::ks,o::os,h,i,hi=>by
  simp only[zfj,zi4]at h;cases i with
  |zero=>
   cases o with
   |dead=>exact .inl rfl
   |_=>
    right
    cases k with
    |none=>exact absurd h.1 (by simp)
    |some k=>obtain rfl:=qbj h.1;rfl
  |succ i=>
   rcases qwa h.2 i (by omega)with h|h
   ·exact .inl h
   ·right
    show qia ks i=_;rw[h];congr 1;omega
structure SSh where
 sl:List (Nat×Sh)
 os:List OSh
def mkS(nt lo:Nat)(sh:SSh)(x:DT sh.sl)(y:DO sh.os):ESt:=⟨nt,qp7 sh.sl x,mkH lo sh.os y⟩
def exS(s:ESt)(ks:List (Option Nat))(sh:SSh):Option (DT sh.sl×DO sh.os):=bif qq9 ks&&zfj s.heap.lo 0 ks sh.os then(match exT ks s.env sh.sl with
 |some x=>match qo5 ks s.heap sh.os ks with
  |some y=>some (x,y)
  |none=>none
 | none=>none)else none
theorem zer{s:ESt}{sh:SSh}{x:DT sh.sl}{y:DO sh.os}(h:exS s ks sh=some (x,y)):qbz s (mkS s.nt s.heap.lo sh x y):=by
 unfold exS at h;obtain⟨hb,h⟩:=qah h;simp only[zi4]at hb;obtain⟨hn,hlo⟩:=hb;split at h
 ·rename_i x' hx;split at h
  ·rename_i y' hy;injection h with h;injection h with h1 h2;subst h1;subst h2;have hR:qiv ks s.heap (mkH s.heap.lo sh.os y') (mK ks):=qgf hy;obtain⟨e1,e2⟩:=qip _ _ _ hy;refine qgy.gen (mK ks) (fun _=>False) rfl ⟨rfl,qv6,fun i o' ho=>?_,fun i sb g' hm=>?_,fun i j x _ _ h1 h2=>q76 hn h1 h2,fun i hi hp=>?_⟩ (fun t=>qo4 hR sh.sl x' hx t)
   ·rcases q08 (Z:=fun _=>False) hy i o' ho with h|⟨x,o,a,b,c,d,e,f,g⟩
    ·exact .inl h
    ·exact .inr ⟨x,o,a,b,fun h=>h,d,e,zkp f,g⟩
   ·obtain⟨x,g,a,b,c⟩:=q1e (Z:=fun _=>False) hy i sb g' hm;exact⟨x,g,a,b,fun h=>h,c⟩
   ·obtain⟨j,p⟩:=i;simp only at hp hi;subst hp
    right
    have hi:j<s.heap.lo:=hi;rcases qwa hlo j hi with h|h
    ·left
     have hj:j<sh.os.length:=by
      refine Classical.byContradiction fun hn=>?_;have:∀(l:List OSh) (j:Nat),l.length<=j->q74 l j=none:=by
       intro l
       induction l with
       |nil=>intro j _;rfl
       |cons o l ih=>intro j hj;cases j with
        |zero=>simp at hj
        |succ j=>exact ih j (by simpa using hj)
      rw[this _ _ (zj9 hn)]at h;cases h
     obtain⟨o,ho,hx⟩:=e2 j hj;rw[h]at ho;injection ho with ho;subst ho;rcases hx with⟨k,x,_,_,q3⟩|⟨x,_,_,q3⟩<;>(show(mkObj sh.os y' j).slot _ _ _=_;rw[q3];rfl)
    ·rw[zjf]at h;rcases hR.sm j j h with hd|⟨q1,q2,q3⟩
     ·exact .inl hd
     ·exact .inr ⟨q3,q1⟩
  ·cases h
 ·cases h
def q1p(s:ESt)(sh:SSh):List (Option Nat):=zfl (quy s.heap sh.os 0 (q6w s.env sh.sl (zhc s.heap.lo 0 sh.os))) sh.os 0
end
end Go.Abs
namespace Go.Abs
open Go
structure KCl(K:V->V->Prop):Prop where
 un:∀u,K u .un
 und:K .und .und
 t:∀x,K (.t x) (.t x)
 qb7:K .qb7 .qb7
 qek:K .qek .qek
 qel:K .qel .qel
 qem:K .qem .qem
 fp:∀n g,K (.fp n g) (.fp n g)
 agg:∀n g g',(∀j,j<n->K (g j) (g' j))->K (.agg n g) (.agg n g')
 tup:∀n g g',(∀j,j<n->K (g j) (g' j))->K (.tup n g) (.tup n g')
 fn:∀f n g g',(∀j,j<n->K (g j) (g' j))->K (.fn f n g) (.fn f n g')
theorem KCl.of{H H':qbh}{M ι':Id->Option Nat}{F F':Nat->Prop}{w w':World}(ht:∀x v,Reads F w x v->Reads F' w' x v)
  (hfp:∀n g v,qa0 H M F w (.fp n g) v->qa0 H' ι' F' w' (.fp n g) v):KCl (fun u u'=>∀v,qa0 H M F w u v->qa0 H' ι' F' w' u' v) where
 un u v _:=trivial
 und v h:=h
 t x v h:=ht x v h
 qb7 v h:=h
 qek v h:=h
 qel v h:=h
 qem v h:=h
 fp n g v h:=hfp n g v h
 agg n g g' h v:=fun⟨cs,h1,h2,h3⟩=>⟨cs,h1,h2,fun j hj=>by obtain⟨c,a,p,b⟩:=h3 j hj;exact⟨c,a,p,h j hj _ b⟩⟩
 tup n g g' h v:=fun⟨cs,h1,h2,h3⟩=>⟨cs,h1,h2,fun j hj=>by obtain⟨c,a,b⟩:=h3 j hj;exact⟨c,a,h j hj _ b⟩⟩
 fn f n g g' h v:=fun⟨cs,h1,h2,h3⟩=>⟨cs,h1,h2,fun j hj=>by obtain⟨c,a,b⟩:=h3 j hj;exact⟨c,a,h j hj _ b⟩⟩
section
variable [SU] [qa3]
mutual
def qgw(g:Nat->Option Nat):EV->EV
 |.ptr k p r c=>match g k with
  |some j=>.ptr j p r c
  |none=>.un
 |.qbo k p r n=>match g k with
  |some j=>.qbo j p r n
  |none=>.un
 |.qa7 k p=>match g k with
  |some j=>.qa7 j p
  |none=>.un
 |.qca k=>match g k with
  |some j=>.qca j
  |none=>.un
 |.agg l=>.agg (qg7 g l)
 |.tup l=>.tup (qg7 g l)
 |.fn f l=>.fn f (qg7 g l)
 |.un=>.un
 |.und=>.und
 |.b x=>.b x
 |.i k n=>.i k n
 |.s x=>.s x
 |.fz U l=>.fz U l
 |.fp U x c=>.fp U x c
 |.st i x=>.st i x
 |.qb7=>.qb7
 |.qek=>.qek
 |.qel=>.qel
 |.qem=>.qem
 |.qju=>.qju
def qg7(g:Nat->Option Nat):List EV->List EV
 |[]=>[]
 |a::l=>qgw g a::qg7 g l
end
theorem qfu(g:Nat->Option Nat):∀l:List EV,(qg7 g l).length=l.length
 |[]=>rfl
 |a::l=>by simp[qg7,qfu g l]
mutual
theorem KCl.ren{K:V->V->Prop}(C:KCl K){len len':Len}{g:Nat->Option Nat}(hp:∀id p r c j,g id=some j->K (.ptr ⟨id,p⟩ 0 r c) (.ptr ⟨j,p⟩ 0 r c))(hs:∀id p r n j,g id=some j->K (.qbo ⟨id,p⟩ 0 r n) (.qbo ⟨j,p⟩ 0 r n))
  (hl:∀id p j,g id=some j->len' j p=len id p) (hm:∀id j,g id=some j->K (.qca ⟨id,[]⟩) (.qca ⟨j,[]⟩)):∀u:EV,K (toV len u) (toV len' (qgw g u))
 |.ptr id p r c=>by
  simp only[qgw];cases hg:g id with
  |none=>simp only[toV];exact C.un _
  |some j=>simp only[toV];exact hp id p r c j hg
 |.qbo id p r n=>by
  simp only[qgw];cases hg:g id with
  |none=>simp only[toV];exact C.un _
  |some j=>simp only[toV];exact hs id p r n j hg
 |.qa7 id p=>by
  simp only[qgw];cases hg:g id with
  |none=>simp only[toV];exact C.un _
  |some j=>
   simp only[toV];rw[hl id p j hg];cases len id p<;>exact hs id p 0 _ j hg
 |.qca id=>by
  simp only[qgw];cases hg:g id with
  |none=>simp only[toV];exact C.un _
  |some j=>simp only[toV];exact hm id j hg
 |.agg l=>by simp only[qgw,toV,qfu];exact C.agg _ _ _ fun j hj=>KCl.zfd C hp hs hl hm l j
 |.tup l=>by simp only[qgw,toV,qfu];exact C.tup _ _ _ fun j hj=>KCl.zfd C hp hs hl hm l j
 |.fn f l=>by simp only[qgw,toV,qfu];exact C.fn _ _ _ _ fun j hj=>KCl.zfd C hp hs hl hm l j
 |.un=>by simp only[qgw,toV];exact C.un _
 |.und=>by simp only[qgw,toV];exact C.und
 |.b _=>by simp only[qgw,toV];exact C.t _
 |.i _ _=>by simp only[qgw,toV];exact C.t _
 |.s _=>by simp only[qgw,toV];exact C.t _
 |.fz _ _=>by simp only[qgw,toV];exact C.t _
 |.fp _ _ _=>by simp only[qgw,toV];exact C.fp _ _
 |.st _ _=>by simp only[qgw,toV];exact C.agg _ _ _ fun j _=>C.t _
 |.qb7=>by simp only[qgw,toV];exact C.qb7
 |.qek=>by simp only[qgw,toV];exact C.qek
 |.qel=>by simp only[qgw,toV];exact C.qel
 |.qem=>by simp only[qgw,toV];exact C.qem
 |.qju=>by simp only[qgw,toV];exact C.t _
theorem KCl.zfd{K:V->V->Prop}(C:KCl K){len len':Len}{g:Nat->Option Nat}(hp:∀id p r c j,g id=some j->K (.ptr ⟨id,p⟩ 0 r c) (.ptr ⟨j,p⟩ 0 r c))(hs:∀id p r n j,g id=some j->K (.qbo ⟨id,p⟩ 0 r n) (.qbo ⟨j,p⟩ 0 r n))
  (hl:∀id p j,g id=some j->len' j p=len id p) (hm:∀id j,g id=some j->K (.qca ⟨id,[]⟩) (.qca ⟨j,[]⟩)):∀(l:List EV) (j:Nat),K (qa4 len l j) (qa4 len' (qg7 g l) j)
 |[],j=>by simp only[qg7,qa4];exact C.un _
 |a::l,0=>by simp only[qg7,qa4];exact KCl.ren C hp hs hl hm a
 |a::l,j+1=>by simp only[qg7,qa4];exact KCl.zfd C hp hs hl hm l j
end
mutual
theorem KCl.qbb{K:V->V->Prop}(C:KCl K){H:qbh}{len len':Len}{f:Nat->List Nat->Option EV}(hp:∀id p r c,H.slot ⟨id,p⟩≠.qae->f id p=none->K (.ptr ⟨id,p⟩ 0 r c) (.ptr ⟨id,p⟩ 0 r c))
  (hs:∀id p r n,H.slot ⟨id,p⟩≠.qae->f id p=none->K (.qbo ⟨id,p⟩ 0 r n) (.qbo ⟨id,p⟩ 0 r n)) (hl:∀id p,H.slot ⟨id,p⟩≠.qae->f id p=none->len' id p=len id p\/∀n n',K (.qbo ⟨id,p⟩ 0 0 n) (.qbo ⟨id,p⟩ 0 0 n'))
  (hm:∀id,H.slot ⟨id,[]⟩≠.qae->f id []=none->K (.qca ⟨id,[]⟩) (.qca ⟨id,[]⟩)) (hu:∀id p u,f id p=some u->u=.un):∀u:EV,qfs H (toV len u)->K (toV len u) (toV len' (Abs.qbb f u))
 |.ptr id p r c,hb=>by
  simp only[Abs.qbb];cases hf:f id p with
  |some u=>simp only[toV];exact C.un _
  |none=>simp only[toV]at hb ⊢;exact hp id p r c hb hf
 |.qbo id p r n,hb=>by
  simp only[Abs.qbb];cases hf:f id p with
  |some u=>simp only[toV];exact C.un _
  |none=>simp only[toV]at hb ⊢;exact hs id p r n hb hf
 |.qa7 id p,hb=>by
  simp only[Abs.qbb];cases hf:f id p with
  |some u=>rw[hu id p u hf];simp only[toV];exact C.un _
  |none=>
   simp only[toV]at hb ⊢;have hb':H.slot ⟨id,p⟩≠.qae:=by cases hx:len id p<;>rw[hx]at hb<;>exact hb
   rcases hl id p hb' hf with e|e
   ·rw[e];cases len id p<;>exact hs id p 0 _ hb' hf
   ·cases len id p<;>cases len' id p<;>exact e _ _
 |.qca id,hb=>by
  simp only[Abs.qbb];cases hf:f id []with
  |some u=>simp only[toV];exact C.un _
  |none=>simp only[toV]at hb ⊢;exact hm id hb hf
 |.agg l,hb=>by simp only[Abs.qbb,toV,qcg]at hb ⊢;exact C.agg _ _ _ fun j hj=>KCl.qbx C hp hs hl hm hu l j (hb j hj)
 |.tup l,hb=>by simp only[Abs.qbb,toV,qcg]at hb ⊢;exact C.tup _ _ _ fun j hj=>KCl.qbx C hp hs hl hm hu l j (hb j hj)
 |.fn g l,hb=>by simp only[Abs.qbb,toV,qcg]at hb ⊢;exact C.fn _ _ _ _ fun j hj=>KCl.qbx C hp hs hl hm hu l j (hb j hj)
 |.un,_=>by simp only[Abs.qbb,toV];exact C.un _
 |.und,_=>by simp only[Abs.qbb,toV];exact C.und
 |.b _,_=>by simp only[Abs.qbb,toV];exact C.t _
 |.i _ _,_=>by simp only[Abs.qbb,toV];exact C.t _
 |.s _,_=>by simp only[Abs.qbb,toV];exact C.t _
 |.fz _ _,_=>by simp only[Abs.qbb,toV];exact C.t _
 |.fp _ _ _,_=>by simp only[Abs.qbb,toV];exact C.fp _ _
 |.st _ _,_=>by simp only[Abs.qbb,toV];exact C.agg _ _ _ fun j _=>C.t _
 |.qb7,_=>by simp only[Abs.qbb,toV];exact C.qb7
 |.qek,_=>by simp only[Abs.qbb,toV];exact C.qek
 |.qel,_=>by simp only[Abs.qbb,toV];exact C.qel
 |.qem,_=>by simp only[Abs.qbb,toV];exact C.qem
 |.qju,_=>by simp only[Abs.qbb,toV];exact C.t _
theorem KCl.qbx{K:V->V->Prop}(C:KCl K){H:qbh}{len len':Len}{f:Nat->List Nat->Option EV}(hp:∀id p r c,H.slot ⟨id,p⟩≠.qae->f id p=none->K (.ptr ⟨id,p⟩ 0 r c) (.ptr ⟨id,p⟩ 0 r c))
  (hs:∀id p r n,H.slot ⟨id,p⟩≠.qae->f id p=none->K (.qbo ⟨id,p⟩ 0 r n) (.qbo ⟨id,p⟩ 0 r n)) (hl:∀id p,H.slot ⟨id,p⟩≠.qae->f id p=none->len' id p=len id p\/∀n n',K (.qbo ⟨id,p⟩ 0 0 n) (.qbo ⟨id,p⟩ 0 0 n'))
  (hm:∀id,H.slot ⟨id,[]⟩≠.qae->f id []=none->K (.qca ⟨id,[]⟩) (.qca ⟨id,[]⟩)) (hu:∀id p u,f id p=some u->u=.un):∀(l:List EV) (j:Nat),qfs H (qa4 len l j)->K (qa4 len l j) (qa4 len' (Abs.qbx f l) j)
 |[],j,_=>by simp only[Abs.qbx,qa4];exact C.un _
 |a::l,0,hb=>by simp only[Abs.qbx,qa4]at hb ⊢;exact KCl.qbb C hp hs hl hm hu a hb
 |a::l,j+1,hb=>by simp only[Abs.qbx,qa4]at hb ⊢;exact KCl.qbx C hp hs hl hm hu l j hb
end
def qru(g:Nat->Option Nat):OD->OD
 |.cells e l=>.cells e (qg7 g l)
 |.lst v=>.lst v
 |.mp s U f=>.mp s U f
 |.dead=>.dead
 |.none=>.none
 |.hole v q r c u=>.hole v q r c (qgw g u)
theorem qvr{g:Nat->Option Nat}(o:OD)(p:List Nat):(qru g o).len p=o.len p:=by
 cases o<;>first|rfl|(cases p<;>rfl)
structure CT(P:Program)(f:FuncId)(args:List EV)(H:qad)(K:EV->qad->Prop):Prop where
 out:∀E M F w (cargs:Array Value),qde E M F (toH H) w->args.length=cargs.size->(∀j,j<args.length->qa0 (toH H) M F w (toV H.len (qdj args j)) (cargs.getD j undef)) ->
  Calls P f cargs w fun e w'=>∃v ι' F' H' cv,e=.returned cv/\qde E ι' F' (toH H') w'/\qa0 (toH H') ι' F' w' (toV H'.len v) cv/\K v H'
def qdf:(l:List (Nat×Sh))->DT l->List EV
 |[],_=>[]
 |(_,a)::l,x=>mkE a x.1::qdf l x.2
structure Ctr(P:Program) where
 f:FuncId
 zb0:qc3 P f
 ar:List (Nat×Sh)
 os:List OSh
 rv:Sh
 ro:List OSh
 F:DT ar->DO os->Option (rv.D×DO ro)
 ok:∀x y r,F x y=some r->CT P f (qdf ar x) (mkH os.length os y) (fun v H'=>v=mkE rv r.1/\H'=mkH os.length ro r.2)
def ixK:List (Option Nat)->Nat->Option Nat
 |[],_=>none
 | some k::l,j=>bif Nat.beq k j then some 0 else(match ixK l j with
  |some i=>some (i+1)
  | none=>none)
 |none::l,j=>match ixK l j with
  |some i=>some (i+1)
  |none=>none
theorem qe1:∀ {ks:List (Option Nat)} {j i:Nat},ixK ks j=some i->qia ks i=some j
 |[],_,_,h=>by cases h
 |some k::l,j,i,h=>by
  simp only[ixK]at h;cases hb:Nat.beq k j with
  |true=>rw[hb]at h;injection h with h;subst h;obtain rfl:=qbj hb;rfl
  |false=>
   rw[hb]at h;simp only[cond_false]at h;cases hi:ixK l j with
   |none=>rw[hi]at h;cases h
   |some x=>rw[hi]at h;injection h with h;subst h;exact qe1 (ks:=l) hi
 |none::l,j,i,h=>by
  simp only[ixK]at h;cases hi:ixK l j with
  |none=>rw[hi]at h;cases h
  |some x=>rw[hi]at h;injection h with h;subst h;exact qe1 (ks:=l) hi
theorem qlo:∀ {ks:List (Option Nat)} {j:Nat},ixK ks j=none->∀i,qia ks i≠some j
 |[],_,_,i=>by simp[qia]
 |some k::l,j,h,i=>by
  simp only[ixK]at h;cases hb:Nat.beq k j with
  |true=>rw[hb]at h;cases h
  |false=>
   rw[hb]at h;simp only[cond_false]at h;cases hi:ixK l j with
   |some x=>rw[hi]at h;cases h
   |none=>
    cases i with
    |zero=>intro e;injection e with e;subst e;simp at hb
    |succ i=>exact qlo (ks:=l) hi i
 |none::l,j,h,i=>by
  simp only[ixK]at h;cases hi:ixK l j with
  |some x=>rw[hi]at h;cases h
  |none=>
   cases i with
   |zero=>intro e;cases e
   |succ i=>exact qlo (ks:=l) hi i
def qyo(n:Nat):List (Option Nat)->Bool
 |[]=>true
 |some k::l=>Nat.blt k n&&qyo n l
 |none::l=>qyo n l
theorem qqb{n:Nat}:∀ {ks:List (Option Nat)} {i k:Nat},qyo n ks=true->qia ks i=some k->k<n
 |[],_,_,_,h=>by cases h
 |some x::l,0,k,hl,h=>by
  simp only[qyo,zi4]at hl;injection h with h;subst h;exact zi8 hl.1
 |none::l,0,k,hl,h=>by cases h
 |some x::l,i+1,k,hl,h=>by
  simp only[qyo,zi4]at hl;exact qqb (ks:=l) hl.2 h
 |none::l,i+1,k,hl,h=>qqb (ks:=l) hl h
def qvv(ks:List (Option Nat))(n0:Nat)(i:Nat):Option Nat:=bif Nat.blt i ks.length then qia ks i else some (n0+(i-ks.length))
def qfo(ks:List (Option Nat)):Nat->List Nat->Option EV:=fun id p=>match p with
 |[]=>none
 |_=>match ixK ks id with
  |some _=>some .un
  |none=>none
def qgn(H:qad)(ks:List (Option Nat))(Hl:qad):qad:={ next:=H.next+(Hl.next-ks.length),lo:=H.lo,md:=H.md,obj:=fun j=>match ixK ks j with
 |some i=>qru (qvv ks H.next) (Hl.obj i)
 | none=>bif Nat.blt j H.next then qbv (qfo ks) (H.obj j)else qru (qvv ks H.next) (Hl.obj (j-H.next+ks.length)) }
def qn7(H Hl:qad):List (Option Nat)->Nat->Bool
 |[],_=>true
 | some k::l,i=>(match Hl.obj i with
  |.dead=>true
  |_=>match H.len k [],Hl.len i []with
   |some a,some b=>decide (b=a)
   |none,none=>true
   | _,_=>false)&&qn7 H Hl l (i+1)
 |none::l,i=>qn7 H Hl l (i+1)
theorem qmt{H Hl:qad}:∀ {ks:List (Option Nat)} {n i k:Nat},qn7 H Hl ks n=true->qia ks i=some k->Hl.obj (n+i)=.dead\/Hl.len (n+i) []=H.len k []
 |[],_,_,_,_,h=>by cases h
 |some x::l,n,0,k,hl,h=>by
  simp only[qn7,zi4]at hl;injection h with h;subst h;have hl:=hl.1;rw[zka];split at hl
  ·rename_i e;exact .inl e
  ·right
   split at hl
   ·rename_i a b e1 e2;rw[e1,e2,of_decide_eq_true hl]
   ·rename_i e1 e2;rw[e1,e2]
   ·cases hl
 |none::l,n,0,k,hl,h=>by cases h
 |some x::l,n,i+1,k,hl,h=>by
  simp only[qn7,zi4]at hl;have:=qmt (ks:=l) (n:=n+1) (i:=i) hl.2 h;rwa [Nat.add_assoc,zkk 1 i]at this
 |none::l,n,i+1,k,hl,h=>by
  have:=qmt (ks:=l) (n:=n+1) (i:=i) hl h;rwa [Nat.add_assoc,zkk 1 i]at this
end
end Go.Abs
namespace Go.Abs
open Go
variable {P:Program} {d:Option Tmp} {ty:TypeId} {L:List GOp} {ρ:Type}
section
variable [SU] [qa3] {Q:Exit->ESt->Prop}
theorem q8a{ks:List (Option Nat)}(hn:qq9 ks=true){i j:Nat}(h:qia ks i=some j):ixK ks j=some i:=by
 cases hx:ixK ks j with
 |none=>exact absurd h (qlo hx i)
 |some x=>rw[qli hn (qe1 hx) h]
def nK(ks:List (Option Nat))(n0:Nat):Id->Option Id:=fun i=>match ixK ks i.k with
 |some x=>some ⟨x,i.p⟩
 |none=>if i.k<n0 then none else some ⟨i.k-n0+ks.length,i.p⟩
theorem q0o{g:Nat->Option Nat}{len len':Len}{k k':Nat}{o:OD}{p:List Nat}(h:o.slot len k p≠.qae):qa1 (o.slot len k p) ((qru g o).slot len' k' p):=by
 cases o with
 |none=>exact absurd rfl h
 |dead=>trivial
 |lst v=>
  simp only[qru,OD.slot]at h ⊢;cases hv:v.at p with
  |none=>rw[hv]at h;exact absurd rfl h
  |some a=>exact⟨rfl,rfl,rfl,rfl⟩
 |cells e l=>
  cases p with
  |cons x y=>exact absurd rfl h
  |nil=>exact⟨rfl,rfl,by simp only[qfu],rfl⟩
 |hole v q r c u=>
  simp only[qru,OD.slot]at h ⊢;by_cases hn:q++[c,r] <+: p
  ·simp only[if_pos hn];trivial
  ·simp only[if_neg hn]at h ⊢;cases hv:v.at p with
   |none=>rw[hv]at h;exact absurd rfl h
   |some a=>exact⟨rfl,rfl,rfl,rfl⟩
 |mp s U g=>
  cases p with
  |cons x y=>exact absurd rfl h
  |nil=>trivial
theorem q5g{K:V->V->Prop}(C:KCl K){g:Nat->Option Nat}{len len':Len}{k k':Nat}{o:OD}{p:List Nat}{a':qc1}(h:(qru g o).slot len' k' p=.live a')
  (hE:∀u:EV,K (toV len u) (toV len' (qgw g u))) (hs:∀q n,K (.qbo ⟨k,q⟩ 0 0 n) (.qbo ⟨k',q⟩ 0 0 n)) :
  ∃a,o.slot len k p=.live a/\a'.elem=a.elem/\a'.sz=a.sz/\a'.n=a.n/\∀r,r<a'.n->∀c,c<a'.sz->K (a.get r c) (a'.get r c):=by
 cases o with
 |none=>cases h
 |dead=>cases h
 |hole v q0 r0 c0 u=>
  simp only[qru,OD.slot]at h ⊢;by_cases hn:q0++[c0,r0] <+: p
  ·rw[if_pos hn]at h;cases h
  rw[if_neg hn]at h ⊢;cases hv:v.at p with
  |none=>rw[hv]at h;cases h
  |some a=>
   rw[hv]at h;injection h with h;subst h;refine⟨_,rfl,rfl,rfl,rfl,fun r hr c hc=>?_⟩;simp only[LV.qj9];by_cases hx:p=q0/\r=r0/\c=c0
   ·rw[if_pos hx,if_pos hx];exact hE u
   rw[if_neg hx,if_neg hx];cases hcc:qao a.U (a.row r) c with
   |ev u=>
    have hd:=qbi _ _ _ _ hcc;have:=hE u
    have e:qgw g u=u:=by cases u<;>first|(cases hd;done)|simp only[qgw]
    rw[e]at this;exact this
   |own t e l=>exact hs _ _
 |mp s U g=>cases p<;>cases h
 |cells e l=>
  cases p with
  |cons x y=>cases h
  |nil=>
   injection h with h;subst h;refine⟨_,rfl,rfl,by simp only[qfu],rfl,fun r hr c hc=>?_⟩;show K (qa4 len l c) (qa4 len' (qg7 g l) c);rw[qdn,qdn];have e:(qg7 g l).getD c .un=qgw g (l.getD c .un):=by
    have:∀(l:List EV) (c:Nat),(qg7 g l).getD c .un=qgw g (l.getD c .un):=by
     intro l
     induction l with
     |nil=>intro c;simp[qg7,qgw]
     |cons a l ih=>intro c;cases c with
      |zero=>simp[qg7]
      |succ c=>simpa[qg7]using ih c
    exact this l c
   rw[e];exact hE _
 |lst v=>
  simp only[qru,OD.slot]at h ⊢;cases hv:v.at p with
  |none=>rw[hv]at h;cases h
  |some a=>
   rw[hv]at h;injection h with h;subst h;refine⟨_,rfl,rfl,rfl,rfl,fun r hr c hc=>?_⟩;show K (qbg len k p r c (qao a.U (a.row r) c)) (qbg len' k' p r c (qao a.U (a.row r) c));cases hcc:qao a.U (a.row r) c with
   |ev u=>
    have hd:=qbi _ _ _ _ hcc;have:=hE u
    have e:qgw g u=u:=by cases u<;>first|(cases hd;done)|simp only[qgw]
    rw[e]at this;exact this
   |own t e l=>exact hs _ _
def q48:Nat->List (Nat×Sh)->Bool
 |_,[]=>true
 |j,(i,_)::l=>Nat.beq i j&&q48 (j+1) l
theorem qi4:∀ {l:List (Nat×Sh)} {n:Nat} {x:DT l},q48 n l=true->∀j,qdj (qdf l x) j=qp7 l x (n+j)
 |[],n,x,h,j=>by simp[qdf,qp7,qdj]
 |(i,a)::l,n,x,h,j=>by
  simp only[q48,zi4]at h;obtain rfl:=qbj h.1;cases j with
  |zero=>simp only[qdf,qdj,qp7,zka,zjg,cond_true]
  |succ j=>
   simp only[qdf,qdj,qp7,qav (show ¬ i+(j+1)=i by omega),cond_false];rw[qi4 h.2 j,Nat.add_assoc,zkk 1 j]
theorem qda:∀(l:List (Nat×Sh)) (x:DT l),(qdf l x).length=l.length
 |[],_=>rfl
 |_::l,x=>by simp[qdf,qda l x.2]
def qhn:List OSh->List OSh->Bool
 |[],_=>true
 |.dead::os,.dead::ro=>qhn os ro
 |.dead::_,_=>false
 |_::os,_::ro=>qhn os ro
 |_::_,[]=>false
theorem qo7:∀ {os ro:List OSh},qhn os ro=true->os.length<=ro.length/\∀j,q74 os j=some .dead->q74 ro j=some .dead
 |[],ro,_=>⟨zkt _,fun j h=>by cases h⟩
 |o::os,[],h=>by cases o<;>cases h
 |o::os,o'::ro,h=>by
  have key:qhn os ro=true/\(o=.dead->o'=.dead):=by
   cases o<;>first
    |exact⟨h,fun e=>by cases e⟩
    |(cases o'<;>first|exact⟨h,fun _=>rfl⟩|cases h)
  obtain⟨h1,h2⟩:=qo7 key.1;refine⟨by simpa using h1,fun j hj=>?_⟩;cases j with
  |zero=>injection hj with hj;subst hj;show some o'=_;rw[key.2 rfl]
  |succ j=>exact h2 j hj
theorem qou:∀ {l:List OSh} {y:DO l} {j:Nat},q74 l j=some .dead->mkObj l y j=.dead
 |[],_,_,h=>by cases h
 |o::l,y,0,h=>by injection h with h;subst h;rfl
 |_::l,y,j+1,h=>qou (l:=l) h
theorem q5u{o:OSh}{x:o.D}{len:Len}{k:Nat}:(mkO o x).slot len k []≠.qae:=by
 cases o<;>simp only[mkO,OD.slot,LV.qa8]<;>simp
theorem qot:∀ {l:List OSh} {y:DO l} {j:Nat} {len:Len} {k:Nat},j<l.length->(mkObj l y j).slot len k []≠.qae
 |[],_,_,_,_,h=>absurd h (zjj _)
 |o::l,y,0,_,_,h=>q5u
 |_::l,y,j+1,_,_,h=>qot (l:=l) (by simpa using h)
def isNil{α:Type}:List α->Bool
 |[]=>true
 |_=>false
theorem qf1{α:Type}{l:List α}(h:isNil l=true):l=[]:=by
 cases l with
 |nil=>rfl
 |cons a l=>cases h
theorem qs3{E:Env}{M:Id->Option Nat}{F:Nat->Prop}{s:ESt}{w:World}(r:qde E M F (toH s.heap) w)(hf:Fair s)(c:Ctr P){ks:List (Option Nat)}(hn:qq9 ks=true)(hlt:qyo s.heap.next ks=true)
  (hd:qhn c.os c.ro=true) {y:DO c.os} (hy:qo5 ks s.heap c.os ks=some y) {res:c.rv.D×DO c.ro}
  (hlen:qn7 s.heap (mkH c.os.length c.ro res.2) ks 0=true) {w':World} {ι3:Id->Option Nat} {F3:Nat->Prop} {cv:Value} (r3:qde (qe5 w (toH (mkH c.os.length c.os y)) (mι (mK ks) M) F) ι3 F3 (toH (mkH c.os.length c.ro res.2)) w')
  (hv:qa0 (toH (mkH c.os.length c.ro res.2)) ι3 F3 w' (toV (mkH c.os.length c.ro res.2).len (mkE c.rv res.1)) cv) :
  ∃ι' F',qde E ι' F' (toH (qgn s.heap ks (mkH c.os.length c.ro res.2))) w' /\
   (∀u v,qfs (toH s.heap) (toV s.heap.len u)->qa0 (toH s.heap) M F w (toV s.heap.len u) v->qa0 (toH (qgn s.heap ks (mkH c.os.length c.ro res.2))) ι' F' w' (toV (qgn s.heap ks (mkH c.os.length c.ro res.2)).len (qbb (qfo ks) u)) v) /\
   qa0 (toH (qgn s.heap ks (mkH c.os.length c.ro res.2))) ι' F' w' (toV (qgn s.heap ks (mkH c.os.length c.ro res.2)).len (qgw (qvv ks s.heap.next) (mkE c.rv res.1))) cv/\(isNil c.os=true->Grown w w'):=by
 obtain⟨ks_len,hobjs⟩:=qip _ _ _ hy;obtain⟨hdl,hdd⟩:=qo7 hd
 let Hl:=mkH c.os.length c.os y
 let Hl':=mkH c.os.length c.ro res.2
 let H':=qgn s.heap ks Hl'
 have pt:Part (toH s.heap) (toH Hl) (mK ks):=qj7 hy hn;have hR:qiv ks s.heap Hl (mK ks):=qgf hy
 -- names
 have lt0:∀ {i k:Nat},qia ks i=some k->k<s.heap.next:=fun h=>qqb hlt h;have objk:∀ {j i:Nat},ixK ks j=some i->H'.obj j=qru (qvv ks s.heap.next) (Hl'.obj i):=fun h=>by simp only[H',qgn,h]
 have objo:∀ {j:Nat},ixK ks j=none->j<s.heap.next->H'.obj j=qbv (qfo ks) (s.heap.obj j):=fun {j} h h2=>by
  show(match ixK ks j with|some i=>_|none=>bif Nat.blt j s.heap.next then _ else _)=_;rw[h];dsimp only;rw[qdr h2];rfl
 have objn:∀ {j:Nat},ixK ks j=none->¬ j<s.heap.next->H'.obj j=qru (qvv ks s.heap.next) (Hl'.obj (j-s.heap.next+ks.length)):=fun {j} h h2=>by
  show(match ixK ks j with|some i=>_|none=>bif Nat.blt j s.heap.next then _ else _)=_;rw[h];dsimp only;rw[qd5 (zj9 h2)];rfl
 have nnk:∀ {j i:Nat} {p:List Nat},ixK ks j=some i->nK ks s.heap.next ⟨j,p⟩=some ⟨i,p⟩:=fun h=>by simp only[nK,h]
 have nno:∀ {j:Nat} {p:List Nat},ixK ks j=none->j<s.heap.next->nK ks s.heap.next ⟨j,p⟩=none:=fun h h2=>by simp only[nK,h,if_pos h2]
 have nnn:∀ {j:Nat} {p:List Nat},ixK ks j=none->¬ j<s.heap.next->nK ks s.heap.next ⟨j,p⟩=some ⟨j-s.heap.next+ks.length,p⟩:=fun h h2=>by simp only[nK,h,if_neg h2]
 have oldlt:∀ {id:Nat} {p:List Nat},(toH s.heap).slot ⟨id,p⟩≠.qae->id<s.heap.next:=fun h=>Classical.byContradiction fun hc=>h (hf.next ⟨_,_⟩ (zj9 hc));have outo:∀ {i:Id},nK ks s.heap.next i=none->ixK ks i.k=none/\i.k<s.heap.next:=fun {i} h=>by
  simp only[nK]at h;cases hi:ixK ks i.k with
  |some x=>rw[hi]at h;cases h
  |none=>
   rw[hi]at h;simp only at h;by_cases hl:i.k<s.heap.next
   ·exact⟨rfl,hl⟩
   ·rw[if_neg hl]at h;cases h
 have nsome:∀ {i x:Id},nK ks s.heap.next i=some x->H'.obj i.k=qru (qvv ks s.heap.next) (Hl'.obj x.k)/\x.p=i.p/\((x.k<ks.length/\qia ks x.k=some i.k)\/(¬ i.k<s.heap.next/\x.k=i.k-s.heap.next+ks.length)):=fun {i x} h=>by
  cases hi:ixK ks i.k with
  |some z=>
   have:=nnk (p:=i.p) hi;have h:nK ks s.heap.next ⟨i.k,i.p⟩=some x:=h;rw[this]at h;injection h with h;subst h;exact⟨objk hi,rfl,.inl ⟨qp4 (qe1 hi),qe1 hi⟩⟩
  |none=>
   by_cases hl:i.k<s.heap.next
   ·have h:nK ks s.heap.next ⟨i.k,i.p⟩=some x:=h;rw[nno hi hl]at h;cases h
   ·have h:nK ks s.heap.next ⟨i.k,i.p⟩=some x:=h;rw[nnn hi hl]at h;injection h with h;subst h;exact⟨objn hi hl,rfl,.inr ⟨hl,rfl⟩⟩
 have slot_like:∀ {i x:Id},nK ks s.heap.next i=some x->(toH Hl').slot x≠.qae->qa1 ((toH Hl').slot x) ((toH H').slot i):=fun {i x} h hu=>by
  obtain⟨e1,e2,_⟩:=nsome h;show qa1 _ ((H'.obj i.k).slot H'.len i.k i.p);rw[e1,<- e2];exact q0o hu
 have root_in:∀ {id i:Nat},ixK ks id=some i->(toH H').slot ⟨id,[]⟩=.dead\/(qa1 ((toH s.heap).slot ⟨id,[]⟩) ((toH Hl).slot ⟨i,[]⟩)/\qa1 ((toH Hl').slot ⟨i,[]⟩) ((toH H').slot ⟨id,[]⟩)):=fun {id i} h=>by
  have hi:=qe1 h;have hil:i<c.os.length:=by rw[ks_len];exact qp4 hi
  have hil2:i<c.ro.length:=zkg hil hdl;have hu:(toH Hl').slot ⟨i,[]⟩≠.qae:=qot (l:=c.ro) (y:=res.2) hil2;have sl:=slot_like (i:=⟨id,[]⟩) (nnk h) hu;rcases hR.sm i id hi with hdead|⟨q1,q2,q3⟩
  ·left
   -- the callee did not get it
   obtain⟨o,ho,_⟩:=hobjs i hil;have hod:o=.dead:=by
    have hdead:(mkObj c.os y i).slot Hl.len i []=.dead:=hdead;have key:∀(l:List OSh) (y:DO l) (j:Nat) (o:OSh),q74 l j=some o->(mkObj l y j).slot Hl.len i []=.dead->o=.dead:=by
     intro l
     induction l with
     |nil=>intro y j o h;cases h
     |cons a l ih=>
      intro y j o h hdd;cases j with
      |zero=>
       injection h with h;subst h
       cases a<;>simp only[mkObj,mkO,OD.slot,LV.qa8]at hdd<;>first|rfl|cases hdd
      |succ j=>exact ih y.2 j o h hdd
    exact key _ _ _ _ ho hdead
   subst hod;show(H'.obj id).slot _ _ _=_;rw[objk h];show(qru _ (mkObj c.ro res.2 i)).slot _ _ _=_;rw[qou (hdd i ho)];rfl
  ·exact .inr ⟨q1,sl⟩
 have bk:zfu (toH s.heap) (toH Hl) (toH Hl') (toH H') (mK ks) (nK ks s.heap.next):=by
  refine⟨rfl,fun i hi=>?_,fun i hi his=>?_,fun i j x h1 h2=>?_,fun i hi hp=>?_⟩
  ·have hi:s.heap.next+(c.ro.length-ks.length)<=i.k:=hi;have h1:ixK ks i.k=none:=by
    cases hx:ixK ks i.k with
    |none=>rfl
    |some z=>have:=lt0 (qe1 hx);omega
   show(H'.obj i.k).slot _ _ _=_;rw[objn h1 (by omega)];show(qru _ (mkObj c.ro res.2 (i.k-s.heap.next+ks.length))).slot _ _ _=_;rw[qfy _ _ _ (by omega)];rfl
  ·obtain⟨h1,h2⟩:=outo hi;refine⟨fun x hx e=>?_,?_⟩
   ·obtain⟨a,p⟩:=x;simp only[mK]at e;cases ha:qia ks a with
    |none=>rw[ha]at e;cases e
    |some k=>
     rw[ha]at e;injection e with e;subst e;exact qlo h1 a ha
   ·show qa1 ((s.heap.obj i.k).slot s.heap.len i.k i.p) ((H'.obj i.k).slot H'.len i.k i.p);have his:((H'.obj i.k).slot H'.len i.k i.p).is:=his;rw[objo h1 h2]at his ⊢;refine qb9 fun hu=>?_;rw[qcs.2 hu]at his;exact his
  ·obtain⟨a1,a2,a3⟩:=nsome h1;obtain⟨b1,b2,b3⟩:=nsome h2;obtain⟨ik,ip⟩:=i;obtain⟨jk,jp⟩:=j;have hp:ip=jp:=a2.symm.trans b2;subst hp;have:ik=jk:=by
    rcases a3 with⟨q1,q2⟩|⟨q1,q2⟩<;>rcases b3 with⟨p1,p2⟩|⟨p1,p2⟩
    ·rw[q2]at p2;injection p2
    ·omega
    ·omega
    ·simp only at q1 q2 p1 p2;omega
   rw[this]
  ·by_cases hu:(toH s.heap).slot i=.qae
   ·exact .inl hu
   ·right
    obtain⟨j,p⟩:=i;simp only at hp;subst hp;have hl:=oldlt hu;cases hx:ixK ks j with
    |none=>
     right;left
     refine⟨nno hx hl,?_⟩;show qa1 _ ((H'.obj j).slot H'.len j []);rw[objo hx hl];exact qb9 hu
    |some i=>
     rcases root_in hx with hdead|⟨q1,q2⟩
     ·exact .inl hdead
     ·exact .inr (.inr ⟨⟨i,[]⟩,nnk hx,qk1 (qe1 hx),rfl,q1,q2⟩)
 let ι5:=ι4 (nK ks s.heap.next) M ι3
 have CX:KCl (fun u u'=>∀v,qa0 (toH s.heap) M F w u v->qa0 (toH H') ι5 F3 w' u' v):=
  KCl.of (fun x v h=>r3.ext (.t x) v h) (fun n g v h=>r3.ext (.fp n g) v h)
 have CY:KCl (fun u u'=>∀v,qa0 (toH Hl') ι3 F3 w' u v->qa0 (toH H') ι5 F3 w' u' v):=KCl.of (fun x v h=>h) (fun n g v h=>h)
 -- names of the callee's
 have gn:∀ {i j:Nat} {p:List Nat},qvv ks s.heap.next i=some j->nK ks s.heap.next ⟨j,p⟩=some ⟨i,p⟩/\H'.obj j=qru (qvv ks s.heap.next) (Hl'.obj i):=fun {i j p} h=>by
  simp only[qvv]at h;by_cases hi:i<ks.length
  ·rw[qdr hi,cond_true]at h;have:=q8a hn h;exact⟨nnk this,objk this⟩
  ·rw[qd5 (zj9 hi),cond_false]at h;injection h with h;have h1:ixK ks j=none:=by
    cases hx:ixK ks j with
    |none=>rfl
    |some z=>have:=lt0 (qe1 hx);omega
   have e:j-s.heap.next+ks.length=i:=by omega
   refine⟨by rw[nnn h1 (by omega),e],by rw[objn h1 (by omega),e]⟩
 have leafY:∀ {x i:Id},nK ks s.heap.next i=some x->(∀rr cc v,qa0 (toH Hl') ι3 F3 w' (.ptr x 0 rr cc) v->qa0 (toH H') ι5 F3 w' (.ptr i 0 rr cc) v)/\(∀rr cc v,qa0 (toH Hl') ι3 F3 w' (.qbo x 0 rr cc) v->qa0 (toH H') ι5 F3 w' (.qbo i 0 rr cc) v)/\∀v,qa0 (toH Hl') ι3 F3 w' (.qca x) v->qa0 (toH H') ι5 F3 w' (.qca i) v:=fun {x i} h=>by
  have e4:ι5 i=ι3 x:=qf7 h;refine⟨fun rr cc v ⟨a,b⟩=>⟨a,?_⟩,fun rr cc v ⟨a,b⟩=>⟨a,?_⟩,fun v ⟨a,b⟩=>⟨a,?_⟩⟩
  ·have hl:=slot_like h (fun e=>by rw[e]at b;exact b)
   cases hs:(toH H').slot i with
   |dead=>trivial
   |mp _ _=>trivial
   |qae=>rw[hs]at hl;cases hs':(toH Hl').slot x<;>rw[hs']at hl<;>exact hl.elim
   |live o'=>
    rw[hs]at hl;cases hs':(toH Hl').slot x with
    |live o=>
     rw[hs']at hl b;obtain⟨q1,q2,q3,q4⟩:=hl;show 0<=o'.ver/\_;rw[e4,q1,q3];exact b
    |qae=>rw[hs']at hl;exact hl.elim
    |dead=>rw[hs']at hl;exact hl.elim
    |mp _ _=>rw[hs']at hl;exact hl.elim
  ·have hl:=slot_like h (fun e=>by rw[e]at b;exact b)
   cases hs:(toH H').slot i with
   |dead=>trivial
   |mp _ _=>trivial
   |qae=>rw[hs]at hl;cases hs':(toH Hl').slot x<;>rw[hs']at hl<;>exact hl.elim
   |live o'=>
    rw[hs]at hl;cases hs':(toH Hl').slot x with
    |live o=>
     rw[hs']at hl b;obtain⟨q1,q2,q3,q4⟩:=hl;show 0<=o'.ver/\_;rw[e4,q1,q2,q3,q4];exact b
    |qae=>rw[hs']at hl;exact hl.elim
    |dead=>rw[hs']at hl;exact hl.elim
    |mp _ _=>rw[hs']at hl;exact hl.elim
  ·have hl:=slot_like h (fun e=>by rw[e]at b;exact b)
   cases hs:(toH H').slot i with
   |dead=>trivial
   |live _=>trivial
   |qae=>rw[hs]at hl;cases hs':(toH Hl').slot x<;>rw[hs']at hl<;>exact hl.elim
   |mp _ _=>
    rw[hs]at hl;cases hs':(toH Hl').slot x with
    |mp _ _=>rw[hs']at b;show ∃b,ι5 i=some b/\_;rw[e4];exact b
    |qae=>rw[hs']at hl;exact hl.elim
    |dead=>rw[hs']at hl;exact hl.elim
    |live _=>rw[hs']at hl;exact hl.elim
 have EY:∀u:EV,∀v,qa0 (toH Hl') ι3 F3 w' (toV Hl'.len u) v->qa0 (toH H') ι5 F3 w' (toV H'.len (qgw (qvv ks s.heap.next) u)) v:=fun u=>CY.ren (len:=Hl'.len) (len':=H'.len)
  (fun id p rr cc j hj=>(leafY (gn (p:=p) hj).1).1 rr cc) (fun id p rr cc j hj=>(leafY (gn (p:=p) hj).1).2.1 rr cc)
  (fun id p j hj=>by show(H'.obj j).len p=(Hl'.obj id).len p;rw[(gn (p:=p) hj).2,qvr]) (fun id j hj=>(leafY (gn (p:=[]) hj).1).2.2) u
 -- names of the caller's
 have leafX:∀ {id:Nat} {p:List Nat},(toH s.heap).slot ⟨id,p⟩≠.qae->qfo ks id p=none->(toH H').slot ⟨id,p⟩=.dead\/((∀ver rr cc v,qa0 (toH s.heap) M F w (.ptr ⟨id,p⟩ ver rr cc) v->qa0 (toH H') ι5 F3 w' (.ptr ⟨id,p⟩ ver rr cc) v) /\
   (∀ver rr cc v,qa0 (toH s.heap) M F w (.qbo ⟨id,p⟩ ver rr cc) v->qa0 (toH H') ι5 F3 w' (.qbo ⟨id,p⟩ ver rr cc) v)/\(∀v,qa0 (toH s.heap) M F w (.qca ⟨id,p⟩) v->qa0 (toH H') ι5 F3 w' (.qca ⟨id,p⟩) v)):=fun {id p} hb hfn=>by
  have hl:=oldlt hb;cases hx:ixK ks id with
  |none=>
   right
   have hsl:qa1 ((toH s.heap).slot ⟨id,p⟩) ((toH H').slot ⟨id,p⟩):=by
    show qa1 _ ((H'.obj id).slot H'.len id p);rw[objo hx hl];exact qb9 hb
   exact qwh r pt r3 (nno hx hl) hsl (fun his=>(bk.out _ (nno hx hl) his).1)
  |some i=>
   have hp:p=[]:=by
    cases p with
    |nil=>rfl
    |cons a b=>simp only[qfo,hx]at hfn;cases hfn
   subst hp;rcases root_in hx with hdead|⟨q1,q2⟩
   ·exact .inl hdead
   ·exact .inr (q1r r r3 (nnk hx) (qk1 (qe1 hx)) rfl q1 q2)
 have EX:∀u:EV,qfs (toH s.heap) (toV s.heap.len u)->∀v,qa0 (toH s.heap) M F w (toV s.heap.len u) v->qa0 (toH H') ι5 F3 w' (toV H'.len (qbb (qfo ks) u)) v:=fun u hb=>CX.qbb (H:=toH s.heap) (len:=s.heap.len) (len':=H'.len) (f:=qfo ks)
  (fun id p rr cc hb hfn=>by
   rcases leafX hb hfn with hdead|h
   ·exact fun v h=>⟨h.1,by rw[hdead];trivial⟩
   ·exact h.1 0 rr cc)
  (fun id p rr cc hb hfn=>by
   rcases leafX hb hfn with hdead|h
   ·exact fun v h=>⟨h.1,by rw[hdead];trivial⟩
   ·exact h.2.1 0 rr cc)
  (fun id p hb hfn=>by
   have hl:=oldlt hb;cases hx:ixK ks id with
   |none=>
    left
    exact qad.qdx (objo hx hl) p
   |some i=>
    have hp:p=[]:=by
     cases p with
     |nil=>rfl
     |cons a b=>simp only[qfo,hx]at hfn;cases hfn
    subst hp;rcases qmt hlen (qe1 hx)with e|e
    ·right
     rw[zjf]at e;intro n n' v h;refine⟨h.1,?_⟩;have:(toH H').slot ⟨id,[]⟩=.dead:=by
      show(H'.obj id).slot _ _ _=_;rw[objk hx];show(qru _ (Hl'.obj i)).slot _ _ _=_;have e:Hl'.obj i=.dead:=e;rw[e];rfl
     rw[this];trivial
    ·left
     rw[zjf]at e;show(H'.obj id).len []=_;rw[objk hx,qvr];exact e)
  (fun id hb hfn=>by
   rcases leafX hb hfn with hdead|h
   ·exact fun v h=>⟨h.1,by rw[hdead];trivial⟩
   ·exact h.2.2)
  (fun id p u h=>by
   simp only[qfo]at h;cases p with
   |nil=>cases h
   |cons a b=>
    cases hx:ixK ks id<;>rw[hx]at h<;>first|(cases h;done)|(injection h with h;exact h.symm)) u hb
 refine⟨ι5,F3,zfu.rel r pt r3 bk (fun i o' hi ho=>?_) (fun i x o' hi ho=>?_) (fun i sb g' hi hm=>?_) (fun i x sb g' hi hm=>?_),fun u v hb h=>EX u hb v h,EY _ _ hv,fun hn=>⟨r3.size,fun b hb=>r3.kept b hb (by
  rintro⟨id,his,_⟩
  have hz:mkObj c.os y id.k=.none:=qfy _ _ _ (by rw[qf1 hn];exact zkt _)
  have e:(toH Hl).slot id=(mkObj c.os y id.k).slot Hl.len id.k id.p:=rfl;rw[e,hz]at his;exact his)⟩⟩
 ·obtain⟨h1,h2⟩:=outo hi;obtain⟨j,p⟩:=i;have ho:(H'.obj j).slot H'.len j p=.live o':=ho;have hobj:=objo h1 h2
  -- an untouched object
  have kcell:∀(p:List Nat) (r c:Nat) (x:Cell),(∀u,x=.ev u->u.dat=true)->qfs (toH s.heap) (qbg s.heap.len j p r c x)->∀v,qa0 (toH s.heap) M F w (qbg s.heap.len j p r c x) v->qa0 (toH H') ι5 F3 w' (qbg H'.len j p r c x) v:=fun p r c x hd hx=>by
   cases x with
   |ev u=>
    have:=EX u hx;have e:qbb (qfo ks) u=u:=by
     have hd:=hd u rfl
     cases u<;>first|(cases hd;done)|simp only[qbb]
    rw[e]at this;exact this
   |own t e l=>
    intro v hv;simp only[qbg]at hx hv ⊢;have hfn:qfo ks j (p++[c,r])=none:=by
     simp only[qfo];cases p++[c,r]<;>simp[h1]
    rcases leafX hx hfn with hdead|h
    ·exact⟨hv.1,by rw[hdead];trivial⟩
    ·exact h.2.1 _ _ _ v hv
  rw[hobj]at ho;cases hO:s.heap.obj j with
  |none=>rw[hO]at ho;cases ho
  |dead=>rw[hO]at ho;cases ho
  |lst v=>
   rw[hO]at ho;simp only[qbv,OD.slot]at ho;cases hv:v.at p with
   |none=>rw[hv]at ho;cases ho
   |some a=>
    rw[hv]at ho;injection ho with ho;subst ho;have hat:s.heap.at j p=some a:=by simp only[qad.at,hO];exact hv
    exact⟨_,qb2 hat,fun r hr c hc=>kcell p r c _ (qbi _ _ _) (hf.obj _ _ (qb2 hat) r hr c hc)⟩
  |cells e l=>
   rw[hO]at ho;cases p with
   |cons x y=>cases ho
   |nil=>
    injection ho with ho;subst ho;refine⟨_,qdh hO,fun r hr c hc=>?_⟩;have hc:c<l.length:=by simpa only[qcg]using hc
    have hr:r<1:=hr;have hbb:=hf.obj _ _ (qdh hO) r hr c hc;show ∀v,qa0 _ _ _ _ (qa4 s.heap.len l c) v->qa0 _ _ _ _ (qa4 H'.len (qbx (qfo ks) l) c) v;have hbb:qfs (toH s.heap) (qa4 s.heap.len l c):=hbb;rw[qdn]at hbb ⊢;rw[qdn];have e:(qbx (qfo ks) l).getD c .un=qbb (qfo ks) (l.getD c .un):=by
     have:∀(l:List EV) (c:Nat),(qbx (qfo ks) l).getD c .un=qbb (qfo ks) (l.getD c .un):=by
      intro l
      induction l with
      |nil=>intro c;simp[qbx,qbb]
      |cons a l ih=>intro c;cases c with
       |zero=>simp[qbx]
       |succ c=>simpa[qbx]using ih c
     exact this l c
    rw[e];exact EX _ hbb
  |hole v q r c u=>
   rw[hO]at ho;simp only[qbv,OD.slot]at ho;split at ho
   ·cases ho
   ·rename_i hnn;cases hv:v.at p with
    |none=>rw[hv]at ho;cases ho
    |some a=>
     rw[hv]at ho;injection ho with ho;subst ho;have hl:(toH s.heap).slot ⟨j,p⟩=.live (a.qj9 s.heap.len j p q r c u):=by
      show(s.heap.obj j).slot _ _ _=_;rw[hO];simp only[OD.slot,hv,if_neg hnn]
     refine⟨_,hl,fun r' hr c' hc=>?_⟩;have hbb:=hf.obj _ _ hl r' hr c' hc;simp only[LV.qj9]at hbb ⊢;split
     ·rename_i hx;rw[if_pos hx]at hbb;exact EX _ hbb
     ·rename_i hne;rw[if_neg hne]at hbb;exact kcell p r' c' _ (qbi _ _ _) hbb
  |mp sb U g=>
   rw[hO]at ho;cases p<;>cases ho
 ·obtain⟨e1,e2,_⟩:=nsome hi;obtain⟨j,p⟩:=i;obtain⟨xk,xp⟩:=x;simp only at e1 e2;subst e2;have ho:(H'.obj j).slot H'.len j xp=.live o':=ho;rw[e1]at ho;have hgx:∀q,nK ks s.heap.next ⟨j,q⟩=some ⟨xk,q⟩:=fun q=>by
   simp only[nK]at hi ⊢;cases hx:ixK ks j with
   |some z=>rw[hx]at hi;injection hi with hi;injection hi with hi _;subst hi;rfl
   |none=>
    rw[hx]at hi;simp only at hi ⊢;by_cases hl:j<s.heap.next
    ·rw[if_pos hl]at hi;cases hi
    ·rw[if_neg hl]at hi ⊢;injection hi with hi;injection hi with hi _;rw[hi]
  obtain⟨a,q1,q2,q3,q4,q5⟩:=q5g CY (k:=xk) ho EY (fun q n=>(leafY (hgx q)).2.1 0 n);exact⟨a,q1,q2,q3,q4,q5⟩
 ·obtain⟨h1,h2⟩:=outo hi;obtain⟨j,p⟩:=i;have hm:(H'.obj j).slot H'.len j p=.mp sb g':=hm;rw[objo h1 h2]at hm;obtain⟨q1,q2⟩:=qvl (len:=s.heap.len) hm;refine⟨g',q1,fun key=>?_⟩;rcases q2 key with e|⟨y,e⟩
  ·exact .inl ⟨e,e⟩
  ·exact .inr ⟨_,_,e,e,fun v h=>CX.t y v h⟩
 ·obtain⟨e1,e2,_⟩:=nsome hi;obtain⟨j,p⟩:=i;obtain⟨xk,xp⟩:=x;simp only at e1 e2;subst e2;have hm:(H'.obj j).slot H'.len j xp=.mp sb g':=hm;rw[e1]at hm;obtain⟨U,g,m1,m2,m3⟩:=ql2 hm;subst m2;have hO:Hl'.obj xk=.mp sb U g:=by
   cases hO:Hl'.obj xk<;>rw[hO]at m1<;>first|(cases m1;done)|(simp only[qru]at m1;exact m1)
  refine⟨g',by show(Hl'.obj xk).slot _ _ _=_;rw[hO,m3];rfl,fun key=>?_⟩
  subst m3;dsimp only;split
  ·exact .inr ⟨_,_,rfl,rfl,fun v h=>h⟩
  ·exact .inl ⟨rfl,rfl⟩
theorem qw2{E:Env}{M:Id->Option Nat}{F:Nat->Prop}{s:ESt}{w:World}(r:qde E M F (toH s.heap) w)(hf:Fair s)(c:Ctr P){ks:List (Option Nat)}(hn:qq9 ks=true)(hlt:qyo s.heap.next ks=true)
  (hq:q48 0 c.ar=true) (hd:qhn c.os c.ro=true) {us:List EV} {x:DT c.ar} {y:DO c.os} (hx:exT ks (qdj us) c.ar=some x) (hy:qo5 ks s.heap c.os ks=some y) {res:c.rv.D×DO c.ro} (hF:c.F x y=some res)
  (hlen:qn7 s.heap (mkH c.os.length c.ro res.2) ks 0=true) {cargs:Array Value} (hsz:c.ar.length=cargs.size) (ha:∀j,j<cargs.size->qa0 (toH s.heap) M F w (toV s.heap.len (qdj us j)) (cargs.getD j undef)) :
  Calls P c.f cargs w fun e w'=>∃cv ι' F',e=.returned cv/\qde E ι' F' (toH (qgn s.heap ks (mkH c.os.length c.ro res.2))) w' /\
   (∀u v,qfs (toH s.heap) (toV s.heap.len u)->qa0 (toH s.heap) M F w (toV s.heap.len u) v->qa0 (toH (qgn s.heap ks (mkH c.os.length c.ro res.2))) ι' F' w' (toV (qgn s.heap ks (mkH c.os.length c.ro res.2)).len (qbb (qfo ks) u)) v) /\
   qa0 (toH (qgn s.heap ks (mkH c.os.length c.ro res.2))) ι' F' w' (toV (qgn s.heap ks (mkH c.os.length c.ro res.2)).len (qgw (qvv ks s.heap.next) (mkE c.rv res.1))) cv/\(isNil c.os=true->Grown w w'):=by
 let Hl:=mkH c.os.length c.os y
 have pt:Part (toH s.heap) (toH Hl) (mK ks):=qj7 hy hn;have hR:qiv ks s.heap Hl (mK ks):=qgf hy;have r2:=pt.rel r;have hargs:∀j,j<(qdf c.ar x).length->qa0 (toH Hl) (mι (mK ks) M) F w (toV Hl.len (qdj (qdf c.ar x) j)) (cargs.getD j undef):=fun j hj=>by
  rw[qda]at hj;rw[qi4 hq j,zjf];have:=qo4 (Z:=fun _=>False) hR c.ar x hx j _ _ _ _ _ r (ha j (by omega));rw[qkk]at this;exact this
 refine((c.ok x y res hF).out _ _ _ _ cargs r2 (by rw[qda];exact hsz) hargs).mono fun e w' ⟨v,ι3,F3,Hx,cv,h1,r3,hv,h4,h5⟩=>?_
 subst h4;subst h5;obtain⟨ι',F',q1,q2,q3,q4⟩:=qs3 r hf c hn hlt hd hy hlen r3 hv;exact⟨cv,ι',F',h1,q1,q2,q3,q4⟩
end
end Go.Abs
namespace Go.Abs
open Go
variable {P:Program}
def T.ff:T->Prop
 |.sl _ n _=>n=0
 |.ifc _ x=>T.ff x
 |_=>True
def V.ff:V->Prop
 |.t x=>T.ff x
 |.fp _ _=>False
 |.agg n g=>∀j,j<n->V.ff (g j)
 |.tup n g=>∀j,j<n->V.ff (g j)
 |.fn _ n g=>∀j,j<n->V.ff (g j)
 |_=>True
theorem Reads.ff{F F':Nat->Prop}{w:World}:∀ {x:T} {v:Value},T.ff x->Reads F w x v->Reads F' w x v:=by
 intro x
 induction x with
 |any=>exact fun _ h=>h
 |bool b=>exact fun _ h=>h
 |int k n=>exact fun _ h=>h
 |str s=>exact fun _ h=>h
 |q5r=>exact fun _ h=>h
 |ifc t x ih=>rintro v hf ⟨c,h1,h2⟩;exact⟨c,h1,ih hf h2⟩
 |sl sz n get ih=>
  rintro v hf ⟨A,cap,h1,h2,h3,h4⟩
  have hf:n=0:=hf;exact⟨A,cap,h1,h2,h3,fun hn=>by omega⟩
theorem qa0.ff{H:qbh}{M:Id->Option Nat}{F F':Nat->Prop}{w:World}:∀ {u:V} {v:Value},V.ff u->qa0 H M F w u v->qa0 H M F' w u v:=by
 intro u
 induction u with
 |t x=>exact fun hf h=>Reads.ff hf h
 |fp m g=>exact fun hf _=>hf.elim
 |agg n g ih=>rintro v hf ⟨cs,h1,h2,h3⟩;exact⟨cs,h1,h2,fun j hj=>by obtain⟨c,a,p,b⟩:=h3 j hj;exact⟨c,a,p,ih j (hf j hj) b⟩⟩
 |tup n g ih=>rintro v hf ⟨cs,h1,h2,h3⟩;exact⟨cs,h1,h2,fun j hj=>by obtain⟨c,a,b⟩:=h3 j hj;exact⟨c,a,ih j (hf j hj) b⟩⟩
 |fn f n g ih=>rintro v hf ⟨cs,h1,h2,h3⟩;exact⟨cs,h1,h2,fun j hj=>by obtain⟨c,a,b⟩:=h3 j hj;exact⟨c,a,ih j (hf j hj) b⟩⟩
 |_=>exact fun _ h=>h
structure qbh.ff(H:qbh):Prop where
 obj:∀i o,H.slot i=.live o->∀r,r<o.n->∀c,c<o.sz->V.ff (o.get r c)
 mp:∀i s g,H.slot i=.mp s g->∀k u,g k=some u->V.ff u
theorem qde.qy3{w w':World}{Hl H':qbh}{ι' ι3:Id->Option Nat}{F F3 L:Nat->Prop}(r3:qde (qe5 w Hl ι' (fun b=>F b\/L b)) ι3 F3 H' w')(hFL:∀b,F b->¬ L b)(hF:∀b,F b->b<w.heap.size/\¬ qtd Hl ι' b)(hff:H'.ff) :
  qde (qe5 w Hl ι' F) ι3 (fun b=>F3 b/\¬ L b) H' w':=by
 have up:∀b,F b->F3 b/\¬ L b:=fun b hb=>by
  refine⟨?_,hFL b hb⟩;obtain⟨b',o',e1,e2,_⟩:=r3.ext (.fp 0 (fun _=>.any)) (.pointer (some ⟨b,0,none⟩)) ⟨b,0,rfl,.inl hb,fun j hj=>absurd hj (zjj _)⟩;injection e1 with e1;injection e1 with e1;injection e1 with e1;subst e1;exact e2
 have hw:∀b,F b->w'.heap[b]?=w.heap[b]?:=fun b hb=>r3.kept b (hF b hb).1 (hF b hb).2;refine⟨r3.os,r3.tape,r3.output,r3.size,r3.kept,fun i o h=>?_,fun i s g h=>?_,r3.inj,fun i b h hi hb=>r3.qt7 i b h hi hb.1,r3.own,r3.lt,fun b hb=>r3.qny b hb.1,fun b hb=>?_,r3.next,?_,r3.lo⟩
 ·obtain⟨h1,h2⟩:=r3.obj i o h;refine⟨h1,?_⟩;cases hk:ι3 i with
  |none=>rw[hk]at h2;exact h2
  |some b=>
   rw[hk]at h2;obtain⟨cur,g1,g2,g3⟩:=h2;exact⟨cur,g1,g2,fun r hr c hc=>by obtain⟨x,a,p,q⟩:=g3 r hr c hc;exact⟨x,a,p,qa0.ff (hff.obj i o h r hr c hc) q⟩⟩
 ·obtain⟨b,es,clock,g1,g2,g3,g4⟩:=r3.qyn i s g h;refine⟨b,es,clock,g1,g2,g3,fun k hk=>?_⟩;have:=g4 k hk;cases hg:g k with
  |none=>rw[hg]at this;exact this
  |some u=>
   rw[hg]at this;obtain⟨n,e,a,b,c⟩:=this;exact⟨n,e,a,b,qa0.ff (hff.mp i s g h k u hg) c⟩
 ·rcases r3.qx3 b hb.1 with(h|h)|h|h
  ·exact .inl h
  ·exact absurd h hb.2
  ·exact .inr (.inl h)
  ·exact .inr (.inr h)
 ·show Ext (qi7 Hl) ι' F w H' ι3 (fun b=>F3 b/\¬ L b) w';intro u
  induction u with
  |un=>exact fun _ _=>trivial
  |und=>exact fun _ h=>h
  |t x=>exact fun v h=>Reads.mono up hw x v h
  |qb7=>exact fun _ h=>h
  |qek=>exact fun _ h=>h
  |qel=>exact fun _ h=>h
  |qem=>exact fun _ h=>h
  |ptr id ver r c=>exact fun v h=>r3.ext (.ptr id ver r c) v h
  |qbo id ver r n=>exact fun v h=>r3.ext (.qbo id ver r n) v h
  |qca id=>exact fun v h=>r3.ext (.qca id) v h
  |fp m g=>
   rintro v ⟨b,o,h1,h2,h3⟩
   refine⟨b,o,h1,up b h2,fun j hj=>?_⟩;obtain⟨c,hc1,hc2⟩:=h3 j hj;refine⟨c,?_,Reads.mono up hw _ _ hc2⟩;unfold World.cell? at hc1 ⊢;simp only at hc1 ⊢;rw[hw b h2];exact hc1
  |fn f n cap ih=>rintro v ⟨cs,h1,h2,h3⟩;exact⟨cs,h1,h2,fun j hj=>by obtain⟨c,a,b⟩:=h3 j hj;exact⟨c,a,ih j _ b⟩⟩
  |agg n get ih=>rintro v ⟨cs,h1,h2,h3⟩;exact⟨cs,h1,h2,fun j hj=>by obtain⟨c,a,p,b⟩:=h3 j hj;exact⟨c,a,p,ih j _ b⟩⟩
  |tup n get ih=>rintro v ⟨cs,h1,h2,h3⟩;exact⟨cs,h1,h2,fun j hj=>by obtain⟨c,a,b⟩:=h3 j hj;exact⟨c,a,ih j _ b⟩⟩
section
variable [SU] [qa3]
def qhr(U τ':Ty)(f:U.D->τ'.D):Prop:=∀(H:qad) (id:Nat) (p:List Nat) (e:TypeId) (l:List U.D),H.at id p=some ⟨e,U,l⟩->∀(E:Env) (M:Id->Option Nat) (F:Nat->Prop) (w:World) (v:Value),qde E M F (toH H) w ->
 qa0 (toH H) M F w (.qbo ⟨id,p⟩ 0 0 l.length) v->Reads (fun b=>F b\/∃q,((toH H).slot ⟨id,q⟩).is/\M ⟨id,q⟩=some b) w (qyq τ' (l.map f)) v
theorem qhr.of{U τ':Ty}{f:U.D->τ'.D}(hsz:τ'.sz=U.sz) (hc:∀x c,c<U.sz->(∃u,qao U x c=.ev u/\∀len,toV len u=.t (qkg τ' (f x) c)) \/
  ∃t e l e' g,qao U x c=.own t e l/\qhr e e' g/\qkg τ' (f x) c=qyq e' (l.map g)):qhr U τ' f:=by
 intro H id p e l hat E M F w v r ⟨h0,h1⟩;have hlive:=qb2 hat;rw[hlive]at h1;obtain⟨hn,A,cap,g1,g2,g3⟩:=h1.2 rfl;obtain⟨o1,o2⟩:=r.obj _ _ hlive;refine⟨A,cap,by rw[zje];exact g1,by rw[zje];exact g2,by rw[zje];exact o1,fun hpos=>?_⟩
 rw[zje]at hpos;obtain⟨b,cur,p1,p2,p3,p4⟩:=g3 (by omega);rw[p1]at o2;obtain⟨cur',q1,q2,q3⟩:=o2;rw[p3]at q1;injection q1 with q1;injection q1 with q1;subst q1;refine⟨b,0,by rw[p2,Nat.zero_mul],.inr ⟨p,by rw[hlive];trivial,p1⟩,fun i hi j hj=>?_⟩
 rw[zje]at hi;rw[hsz]at hj;obtain⟨c',r1,r2,r3⟩:=q3 i hi j hj;refine⟨c',?_,?_⟩
 ·rw[zjf,hsz];simp[World.cell?,p3];exact r1
 ·have er:(l.map f).getD i τ'.z=f (l.getD i U.z):=by simp[zi5,hi]
  show Reads _ w (qkg τ' ((l.map f).getD i τ'.z) j) c';rw[er];have r3:qa0 (toH H) M F w (qbg H.len id p i j (qao U (l.getD i U.z) j)) c':=r3;rcases hc (l.getD i U.z) j hj with⟨u,e1,e2⟩|⟨t,e',l',τ2,g,e1,e2,e3⟩
  ·rw[e1]at r3;simp only[qbg]at r3;rw[e2]at r3;exact Reads.mono (fun b hb=>.inl hb) (fun _ _=>rfl) _ _ r3
  ·rw[e1]at r3;have hk:H.at id (p++[j,i])=some ⟨t,e',l'⟩:=by
    rw[qad.qbu hat,LV.at_one];exact LV.qec e1
   rw[e3];exact e2 H id (p++[j,i]) t l' hk E M F w c' r r3
theorem qhr.fro{U:Ty}(h:qkb U=true):qhr U U (fun x=>x):=qhr.of rfl fun x c hc=>by
 obtain⟨u,e1,e2⟩:=qd3 U x c h;exact .inl ⟨u,e1,fun len=>e2 hc len⟩
structure zic(i:Nat) where
 j:Nat
 f:SU.D i->SU.D j
def Sp.q75{α β:Type}(g:α->Option β):List α->Option (List β)
 |[]=>some []
 |a::l=>match g a with
  |some b=>match Sp.q75 g l with
   |some m=>some (b::m)
   |none=>none
  |none=>none
theorem q1f{α β:Type}{g:α->Option β}{f:β->α}(h:∀x y,g x=some y->f y=x):∀(l:List α) (m:List β),Sp.q75 g l=some m->m.map f=l
 |[],m,e=>by injection e with e;subst e;rfl
 |a::l,m,e=>by
  unfold Sp.q75 at e;split at e
  ·rename_i b hb;split at e
   ·rename_i m' hm;injection e with e;subst e;rw[zjl,h _ _ hb,q1f h l m' hm]
   ·cases e
  ·cases e
class qyl where
 d:(i:Nat)->Option (zic i)
 ok:∀i x,d i=some x->qhr (.st i) (.st x.j) x.f
 dn:(i j:Nat)->Option (SU.D i->Option (SU.D j))
 zet:∀i j g,dn i j=some g->∃f,qa3.upF j i=some f/\∀x y,g x=some y->f y=x
variable [qyl]
def zex(v:LV):EV:=match v with
 | ⟨_,.st i,l⟩=>bif qa3.fro i then .fz (.st i) l else(match qyl.d i with
  |some x=>.fz (.st x.j) (l.map x.f)
  | none=>.un)
 |⟨_,U,l⟩=>bif qkb U then .fz U l else .un
theorem q2v{H:qad}{id:Nat}{p:List Nat}{v:LV}(hat:H.at id p=some v){E:Env}{M:Id->Option Nat}{F:Nat->Prop}{w:World}{c:Value}(r:qde E M F (toH H) w)
  (h:qa0 (toH H) M F w (.qbo ⟨id,p⟩ 0 0 v.l.length) c) {len:Len} {H':qbh} {ι':Id->Option Nat} {F':Nat->Prop} (hF:∀b,(F b\/∃q,((toH H).slot ⟨id,q⟩).is/\M ⟨id,q⟩=some b)->F' b):qa0 H' ι' F' w (toV len (zex v)) c:=by
 have key:∀ {U τ':Ty} {f:U.D->τ'.D} {e:TypeId} {l:List U.D},qhr U τ' f->H.at id p=some ⟨e,U,l⟩->qa0 (toH H) M F w (.qbo ⟨id,p⟩ 0 0 l.length) c->qa0 H' ι' F' w (toV len (.fz τ' (l.map f))) c:=fun hd ha hv=>by
  simp only[toV];exact Reads.mono hF (fun _ _=>rfl) _ _ (hd H id p _ _ ha E M F w c r hv)
 have flat:∀ {U:Ty} {e:TypeId} {l:List U.D},H.at id p=some ⟨e,U,l⟩->qa0 (toH H) M F w (.qbo ⟨id,p⟩ 0 0 l.length) c->qa0 H' ι' F' w (toV len (bif qkb U then .fz U l else .un)) c:=fun {U e l} ha hv=>by
  cases hf:qkb U with
  |false=>simp only[cond_false,toV];exact trivial
  |true=>
   have:=key (f:=fun x=>x) (qhr.fro hf) ha hv;rw[List.map_id']at this;simp only[cond_true];exact this
 obtain⟨e,U,l⟩:=v;cases U with
 |st i=>
  simp only[zex];cases hf:qa3.fro i with
  |true=>
   have:=flat hat h;have hf':qkb (.st i)=true:=hf;rw[hf']at this;exact this
  |false=>
   simp only[cond_false];cases hd:qyl.d i with
   |none=>simp only[toV];exact trivial
   |some x=>exact key (qyl.ok i x hd) hat h
 |bool=>exact flat hat h
 |int k=>exact flat hat h
 |str=>exact flat hat h
 |sl e'=>exact flat hat h
 |ol t e'=>exact flat hat h
def qil(H:qad)(ks:List (Option Nat)):Nat->List Nat->Option EV:=fun id p=>match ixK ks id with
 |some _=>none
 | none=>some (match H.at id p with
  |some v=>zex v
  | none=>.un)
def qfz(H:qad)(ks:List (Option Nat)):qad:={ next:=H.next,lo:=H.lo,md:=H.md,obj:=fun j=>match ixK ks j with
 |some _=>qbv (qil H ks) (H.obj j)
 | none=>bif Nat.blt j H.next then .dead else .none }
def qua(ks:List (Option Nat)):Id->Option Id:=fun i=>match ixK ks i.k with
 |some _=>some i
 |none=>none
def q55(ks:List (Option Nat)):Id->Prop:=fun i=>ixK ks i.k=none
theorem qoy{s:ESt}(hf:Fair s)(ks:List (Option Nat)):qbk (qil s.heap ks) s.heap (toH s.heap) (qfz s.heap ks) (qua ks) (q55 ks):=by
 have hobj:∀j i,ixK ks j=some i->(qfz s.heap ks).obj j=qbv (qil s.heap ks) (s.heap.obj j):=fun j i h=>by simp only[qfz,h]
 refine⟨fun id p u h=>?_,fun id p h hb=>?_,fun id p h hb=>?_⟩
 ·simp only[qil]at h;cases hx:ixK ks id with
  |some i=>rw[hx]at h;cases h
  |none=>
   rw[hx]at h;injection h with h;cases hat:s.heap.at id p with
   |none=>rw[hat]at h;subst h;simp only[toV];exact KG.un
   |some v=>
    rw[hat]at h;subst h;intro E M F w c r hv;simp only[toV,qad.qf0 hat]at hv;exact q2v hat r hv (fun b hb=>hb.imp (fun h=>h) fun⟨q,q1,q2⟩=>⟨⟨id,q⟩,hx,q1,q2⟩)
 ·simp only[qil]at h;cases hx:ixK ks id with
  |none=>rw[hx]at h;cases h
  |some i=>
   refine .inr ⟨?_,by simp only[qua,hx]⟩;show qa1 _ (((qfz s.heap ks).obj id).slot _ id p);rw[hobj id i hx];exact qb9 hb
 ·simp only[qil]at h;cases hx:ixK ks id with
  |none=>rw[hx]at h;cases h
  |some i=>exact qad.qdx (hobj id i hx) p
theorem q57{s:ESt}(hf:Fair s)(ks:List (Option Nat)):Gen (toH s.heap) (toH (qfz s.heap ks)) (qua ks) (q55 ks):=by
 have hobj:∀j i,ixK ks j=some i->(qfz s.heap ks).obj j=qbv (qil s.heap ks) (s.heap.obj j):=fun j i h=>by simp only[qfz,h]
 have hno:∀j p,ixK ks j=none->((toH (qfz s.heap ks)).slot ⟨j,p⟩=.dead)\/((toH (qfz s.heap ks)).slot ⟨j,p⟩=.qae/\s.heap.next<=j):=fun j p h=>by
  show((qfz s.heap ks).obj j).slot _ j p=.dead\/(((qfz s.heap ks).obj j).slot _ j p=.qae/\_)
  simp only[qfz,h];by_cases hl:j<s.heap.next
  ·rw[qdr hl];exact .inl rfl
  ·rw[qd5 (zj9 hl)];exact .inr ⟨rfl,zj9 hl⟩
 refine Gen.qbb (fun j=>ixK ks j=none) (qoy hf ks) hf.obj (fun j hj=>?_) (fun i hi o' ho'=>?_) (fun i hi sb g' hm=>?_) (fun i j x hi h1' h2' e1 e2=>?_) rfl (fun i hi=>?_) (fun i hi hil hip=>?_)
 ·cases hx:ixK ks j with
  |none=>exact absurd hx hj
  |some i=>exact⟨fun p=>by simp only[qil,hx],hobj j i hx,fun p=>by simp only[qua,hx],fun p h=>(by have h:ixK ks j=none:=h;rw[hx]at h;cases h),fun p=>rfl⟩
 ·obtain⟨j,p⟩:=i;rcases hno j p hi with h|⟨h,_⟩<;>rw[h]at ho'<;>cases ho'
 ·obtain⟨j,p⟩:=i;rcases hno j p hi with h|⟨h,_⟩<;>rw[h]at hm<;>cases hm
 ·obtain⟨j',p⟩:=i;rcases hno j' p hi with h|⟨h,_⟩<;>rw[h]at h1'<;>exact h1'.elim
 ·obtain⟨j,p⟩:=i;have hi:s.heap.next<=j:=hi;cases hx:ixK ks j with
  |none=>
   rcases hno j p hx with h|⟨h,_⟩
   ·exfalso;have h:((qfz s.heap ks).obj j).slot _ j p=.dead:=h;simp only[qfz,hx]at h;rw[qd5 hi]at h;cases h
   ·exact h
  |some x=>
   show((qfz s.heap ks).obj j).slot _ j p=.qae;rw[hobj j x hx,qcs (len:=s.heap.len)];exact hf.next ⟨j,p⟩ hi
 ·obtain⟨j,p⟩:=i;rcases hno j p hi with h|⟨h,h2⟩
  ·exact .inr (.inl h)
  ·exact .inl (hf.next ⟨j,p⟩ h2)
theorem zag{M:Id->Option Nat}{ks:List (Option Nat)}(hn:qq9 ks=true):mι (mK ks) (mι (qua ks) M)=mι (mK ks) M:=by
 funext i;unfold mι mK;cases h:qia ks i.k with
 |none=>rfl
 |some k=>
  simp only[qua];rw[q8a hn h]
structure zib(rv:Sh)(ro:List OSh)(n:Nat)(r:rv.D×DO ro):Prop where
 v:V.ff (toV (mkH n ro r.2).len (mkE rv r.1))
 h:qbh.ff (toH (mkH n ro r.2))
theorem q56{E:Env}{M:Id->Option Nat}{F:Nat->Prop}{s:ESt}{w:World}(r:qde E M F (toH s.heap) w)(hf:Fair s)(c:Ctr P){ks:List (Option Nat)}(hn:qq9 ks=true)(hlt:qyo s.heap.next ks=true)
  (hq:q48 0 c.ar=true) (hd:qhn c.os c.ro=true) {us:List EV} {x:DT c.ar} {y:DO c.os} (hx:exT ks (qdj (qbx (qil s.heap ks) us)) c.ar=some x) (hy:qo5 ks s.heap c.os ks=some y) (hyk:qo5 ks (qfz s.heap ks) c.os ks=some y)
  {res:c.rv.D×DO c.ro} (hF:c.F x y=some res) (hff:zib c.rv c.ro c.os.length res)
  (hlen:qn7 s.heap (mkH c.os.length c.ro res.2) ks 0=true) {cargs:Array Value} (hsz:c.ar.length=cargs.size) (ha:∀j,j<cargs.size->qfs (toH s.heap) (toV s.heap.len (qdj us j))/\qa0 (toH s.heap) M F w (toV s.heap.len (qdj us j)) (cargs.getD j undef)) :
  Calls P c.f cargs w fun e w'=>∃cv ι' F',e=.returned cv/\qde E ι' F' (toH (qgn s.heap ks (mkH c.os.length c.ro res.2))) w' /\
   (∀u v,qfs (toH s.heap) (toV s.heap.len u)->qa0 (toH s.heap) M F w (toV s.heap.len u) v->qa0 (toH (qgn s.heap ks (mkH c.os.length c.ro res.2))) ι' F' w' (toV (qgn s.heap ks (mkH c.os.length c.ro res.2)).len (qbb (qfo ks) u)) v) /\
   qa0 (toH (qgn s.heap ks (mkH c.os.length c.ro res.2))) ι' F' w' (toV (qgn s.heap ks (mkH c.os.length c.ro res.2)).len (qgw (qvv ks s.heap.next) (mkE c.rv res.1))) cv/\(isNil c.os=true->Grown w w'):=by
 let Hl:=mkH c.os.length c.os y
 have sc:=qoy hf ks;have rk:=Gen.rel r (q57 hf ks);have pk:Part (toH (qfz s.heap ks)) (toH Hl) (mK ks):=qj7 hyk hn;have hR:qiv ks (qfz s.heap ks) Hl (mK ks):=qgf hyk;have pt:Part (toH s.heap) (toH Hl) (mK ks):=qj7 hy hn;have r2:=pk.rel rk;have r20:=pt.rel r;have hargs:∀j,j<(qdf c.ar x).length->qa0 (toH Hl) (mι (mK ks) (mι (qua ks) M)) (FZ (toH s.heap) M (q55 ks) F) w (toV Hl.len (qdj (qdf c.ar x) j)) (cargs.getD j undef):=fun j hj=>by
  rw[qda]at hj;rw[qi4 hq j,zjf];obtain⟨hb,hv⟩:=ha j (by omega);have e:qdj (qbx (qil s.heap ks) us) j=qbb (qil s.heap ks) (qdj us j):=by
   have:∀(l:List EV) (j:Nat),qdj (qbx (qil s.heap ks) l) j=qbb (qil s.heap ks) (qdj l j):=by
    intro l
    induction l with
    |nil=>intro j;simp[qbx,qdj,qbb]
    |cons a l ih=>intro j;cases j with
     |zero=>simp[qbx,qdj]
     |succ j=>simpa[qbx,qdj]using ih j
   exact this us j
  have h1:=sc.keeps (qdj us j) hb E M F w _ r hv;rw[<- e]at h1;have:=qo4 (Z:=fun _=>False) hR c.ar x hx j _ _ _ _ _ rk h1;rw[qkk]at this;exact this
 refine((c.ok x y res hF).out _ _ _ _ cargs r2 (by rw[qda];exact hsz) hargs).mono fun e w' ⟨v,ι3,F3,Hx,cv,h1,r3,hv,h4,h5⟩=>?_
 subst h4;subst h5;have r3:qde (qe5 w (toH Hl) (mι (mK ks) M) (fun b=>F b\/∃i,q55 ks i/\((toH s.heap).slot i).is/\M i=some b)) ι3 F3 (toH (mkH c.os.length c.ro res.2)) w':=by
  have:=r3;rw[zag hn]at this;exact this
 have r3':=r3.qy3 (fun b hb ⟨i,_,hi,hib⟩=>r.qt7 i b hi hib hb) (fun b hb=>⟨r.qny b hb,fun⟨i,hi,hib⟩=>r20.qt7 i b hi hib hb⟩) hff.h;obtain⟨ι',F',q1,q2,q3,q4⟩:=qs3 r hf c hn hlt hd hy hlen r3' (qa0.ff hff.v hv);exact⟨cv,ι',F',h1,q1,q2,q3,q4⟩
class FFs where
 st:Nat->Bool
 ok:∀i,st i=true->qa3.fro i=true/\∀(x:SU.D i) c,c<SU.sz i->T.ff (SU.enc i x c)
variable [FFs]
def qx5:Ty->Bool
 |.bool=>true
 |.int _=>true
 |.str=>true
 |.st i=>FFs.st i
 |.sl _=>false
 |.ol _ e=>qx5 e
def q6m:Sh->Bool
 |.un=>true
 |.b=>true
 |.i _=>true
 |.s=>true
 |.fz _=>false
 |.st n=>FFs.st n
 |.fp _ _=>false
 |.qb7=>true
 |.qek=>true
 |.qel=>true
 |.qem=>true
 |.qju=>true
 |.ptr _ _=>true
 |.q3v _ _=>true
 |.part _=>true
 |.full _=>true
 |.qca _=>true
 |.agg l=>qst l
 |.tup l=>qst l
 |.fn _ l=>qst l
where qst:List Sh->Bool
 |[]=>true
 |a::l=>q6m a&&qst l
theorem q6l{U:Ty}(h:qx5 U=true){x:U.D}{c:Nat}{t:TypeId}{e:Ty}{l:List e.D}(hc:qao U x c=.own t e l):qx5 e=true:=by
 cases U with
 |st i=>obtain⟨u,e1,_⟩:=qa3.qee i x c (FFs.ok i h).1;simp only[qao]at hc;rw[e1]at hc;cases hc
 |ol t' e'=>cases c with
  |zero=>simp only[qao]at hc;injection hc with h1 h2;subst h2;exact h
  |succ c=>cases hc
 |bool=>cases c<;>cases hc
 |int k=>cases c<;>cases hc
 |str=>cases c<;>cases hc
 |sl e'=>cases h
theorem q2f{U:Ty}(h:qx5 U=true){x:U.D}{c:Nat}{u:EV}(hs:c<U.sz)(hc:qao U x c=.ev u)(len:Len):V.ff (toV len u):=by
 cases U with
 |st i=>
  obtain⟨h1,h2⟩:=FFs.ok i h;obtain⟨u',e1,e2⟩:=qa3.qee i x c h1;simp only[qao]at hc;rw[e1]at hc;injection hc with hc;subst hc;rw[e2 hs];exact h2 x c hs
 |ol t' e'=>cases c with
  |zero=>cases hc
  |succ c=>injection hc with hc;subst hc;simp only[toV];trivial
 |bool=>cases c<;>(injection hc with hc;subst hc;simp only[toV];trivial)
 |int k=>cases c<;>(injection hc with hc;subst hc;simp only[toV];trivial)
 |str=>cases c<;>(injection hc with hc;subst hc;simp only[toV];trivial)
 |sl e'=>cases h
theorem q2g:∀(p:List Nat) (v a:LV),qx5 v.U=true->v.at p=some a->qx5 a.U=true
 |[],v,a,h,ha=>by rw[LV.qa8]at ha;injection ha with ha;exact ha▸h
 |[_],v,a,h,ha=>by rw[LV.qfi]at ha;cases ha
 |c::r::p,v,a,h,ha=>by
  rw[LV.qbr]at ha;cases hk:v.kid c r with
  |none=>rw[hk]at ha;cases ha
  |some k=>rw[hk]at ha;exact q2g p k a (q6l h (LV.qgj hk)) ha
def LV.ffP(v:LV):Prop:=∀p a,v.at p=some a->∀r,r<a.l.length->∀c,c<a.U.sz->∀u,qao a.U (a.row r) c=.ev u->∀len,V.ff (toV len u)
theorem LV.q2i{v:LV}(h:∀r,r<v.l.length->∀c,(c<v.U.sz->∀u,qao v.U (v.row r) c=.ev u->∀len,V.ff (toV len u))/\∀t e l,qao v.U (v.row r) c=.own t e l->LV.ffP ⟨t,e,l⟩):v.ffP
 |[],a,ha=>by rw[LV.qa8]at ha;injection ha with ha;subst ha;exact fun r hr c hc=>(h r hr c).1 hc
 |[_],a,ha=>by rw[LV.qfi]at ha;cases ha
 |c::r::p,a,ha=>by
  rw[LV.qbr]at ha;cases hk:v.kid c r with
  |none=>rw[hk]at ha;cases ha
  |some k=>
   rw[hk]at ha;by_cases hr:r<v.l.length
   ·exact(h r hr c).2 _ _ _ (LV.qgj hk) p a ha
   ·have hkc:=LV.qgj hk;have e:v.row r=v.U.z:=by unfold LV.row;rw[zi5,zk2 (by omega)];rfl
    rw[e]at hkc;have hz:=qoc _ _ _ _ _ hkc;have:=LV.qgp p k a hz ha;intro r' hr';rw[this]at hr';simp at hr'
theorem qqv{v:LV}(h:qx5 v.U=true):v.ffP:=fun p a ha r hr c hc u hu len=>q2f (q2g p v a h ha) hc hu len
mutual
theorem q2h(len:Len):∀(a:Sh) (x:a.D),q6m a=true->V.ff (toV len (mkE a x))
 |.un,_,_=>by simp only[mkE,toV];trivial
 |.b,_,_=>by simp only[mkE,toV];trivial
 |.i _,_,_=>by simp only[mkE,toV];trivial
 |.s,_,_=>by simp only[mkE,toV];trivial
 |.fz _,_,h=>by cases h
 |.st n,x,h=>by simp only[mkE,toV];exact fun j hj=>(FFs.ok n h).2 x j hj
 |.fp _ _,_,h=>by cases h
 |.qb7,_,_=>by simp only[mkE,toV];trivial
 |.qek,_,_=>by simp only[mkE,toV];trivial
 |.qel,_,_=>by simp only[mkE,toV];trivial
 |.qem,_,_=>by simp only[mkE,toV];trivial
 |.qju,_,_=>by simp only[mkE,toV];trivial
 |.ptr _ _,_,_=>by simp only[mkE,toV];trivial
 |.q3v _ _,_,_=>by simp only[mkE,toV];trivial
 |.part _,_,_=>by simp only[mkE,toV];trivial
 |.full id,_,_=>by
  simp only[mkE,toV]
  split<;>trivial
 |.qca _,_,_=>by simp only[mkE,toV];trivial
 |.agg l,x,h=>by simp only[mkE,toV];exact fun j _=>qjl len l x h j
 |.tup l,x,h=>by simp only[mkE,toV];exact fun j _=>qjl len l x h j
 |.fn _ l,x,h=>by simp only[mkE,toV];exact fun j _=>qjl len l x h j
theorem qjl(len:Len):∀(l:List Sh) (x:DS l),q6m.qst l=true->∀j,V.ff (qa4 len (qn3 l x) j)
 |[],_,_,j=>by simp only[qn3,qa4];trivial
 |a::l,x,h,j=>by
  simp only[q6m.qst,zi4]at h;cases j with
  |zero=>simp only[qn3,qa4];exact q2h len a x.1 h.1
  |succ j=>simp only[qn3,qa4];exact qjl len l x.2 h.2 j
end
def OD.ffP(o:OD):Prop:=∀len k p,(∀a,o.slot len k p=.live a->∀r,r<a.n->∀c,c<a.sz->V.ff (a.get r c))/\∀s g,o.slot len k p=.mp s g->∀x u,g x=some u->V.ff u
theorem LV.ffO{v:LV}(h:v.ffP):OD.ffP (.lst v):=fun len k p=>by
 refine⟨fun a ha r hr c hc=>?_,fun s g hg=>?_⟩
 ·simp only[OD.slot]at ha;cases hv:v.at p with
  |none=>rw[hv]at ha;cases ha
  |some b=>
   rw[hv]at ha;injection ha with ha;subst ha;show V.ff (qbg len k p r c (qao b.U (b.row r) c));cases hcc:qao b.U (b.row r) c with
   |ev u=>exact h p b hv r hr c hc u hcc len
   |own t e l=>trivial
 ·simp only[OD.slot]at hg;cases hv:v.at p<;>rw[hv]at hg<;>cases hg
section
open Classical
variable {ρ:Type}
noncomputable def ffK:(ro:List OSh)->DO ro->Option ρ->Option ρ
 |[],_,K=>K
 |.dead::l,y,K=>ffK l y.2 K
 |.lst e U::l,y,K=>bif qx5 U then ffK l y.2 K else grd (okB (LV.ffP ⟨e,U,y.1⟩)) (ffK l y.2 K)
 |.box e U::l,y,K=>bif qx5 U then ffK l y.2 K else grd (okB (LV.ffP ⟨e,U,[y.1]⟩)) (ffK l y.2 K)
 |.cells _ m::l,y,K=>bif q6m.qst m then ffK l y.2 K else none
 |.mp _ U::l,y,K=>bif(qx5 U&&qkb U)&&Nat.blt 0 U.sz then ffK l y.2 K else none
theorem q2l{K:Option ρ}{res:ρ}:∀(ro:List OSh) (y:DO ro),ffK ro y K=some res->(∀j,OD.ffP (mkObj ro y j))/\K=some res
 |[],y,h=>⟨fun j len k p=>⟨fun a ha=>(by cases j<;>cases ha),fun s g hg=>(by cases j<;>cases hg)⟩,h⟩
 |o::l,y,h=>by
  have step:OD.ffP (mkO o y.1)->ffK l y.2 K=some res->(∀j,OD.ffP (mkObj (o::l) y j))/\K=some res:=fun h1 h2=>by
   obtain⟨a,b⟩:=q2l l y.2 h2;exact⟨fun j=>by cases j with
    |zero=>exact h1
    | succ j=>exact a j,b⟩
  cases o with
  |dead=>exact step (fun len k p=>⟨fun a ha=>(by cases ha),fun s g hg=>(by cases hg)⟩) h
  |lst e U=>
   unfold ffK at h;cases hb:qx5 U with
   |true=>rw[hb]at h;exact step (LV.ffO (qqv hb)) h
   |false=>
    rw[hb]at h;simp only[cond_false]at h;obtain⟨h1,h2⟩:=qbs h;exact step (LV.ffO (qdo h1)) h2
  |box e U=>
   unfold ffK at h;cases hb:qx5 U with
   |true=>rw[hb]at h;exact step (LV.ffO (qqv hb)) h
   |false=>
    rw[hb]at h;simp only[cond_false]at h;obtain⟨h1,h2⟩:=qbs h;exact step (LV.ffO (qdo h1)) h2
  |cells e m=>
   unfold ffK at h;obtain⟨hb,h⟩:=qah h;refine step (fun len k p=>⟨fun a ha r hr c hc=>?_,fun s g hg=>?_⟩) h
   ·cases p with
    |nil=>injection ha with ha;subst ha;exact qjl len m y.1 hb c
    |cons _ _=>cases ha
   ·cases p<;>cases hg
  |mp s U=>
   unfold ffK at h;obtain⟨hb,h⟩:=qah h;simp only[zi4]at hb;refine step (fun len k p=>⟨fun a ha=>?_,fun s g hg x u hu=>?_⟩) h
   ·cases p<;>cases ha
   ·cases p with
    |cons _ _=>cases hg
    |nil=>
     injection hg with h1 h2;subst h2;dsimp only at hu;split at hu
     ·rename_i z hz;injection hu with hu;subst hu;obtain⟨u',e1,e2⟩:=qd3 U z 0 hb.1.2;have hs:0<U.sz:=zi8 hb.2;have:=q2f hb.1.1 hs e1 (fun _ _=>Option.none);rw[e2 hs]at this;exact this
     ·cases hu
theorem zep{rv:Sh}{ro:List OSh}{n:Nat}{r:rv.D×DO ro}(hv:q6m rv=true)(h:∀j,OD.ffP (mkObj ro r.2 j)):zib rv ro n r:=
 ⟨q2h _ _ _ hv,⟨fun i o ho=>(h i.k _ _ _).1 o ho,fun i s g hg=>(h i.k _ _ _).2 s g hg⟩⟩
end
end
end Go.Abs
namespace Go.Abs
open Go
variable {P:Program} {Q:Exit->St->Prop} {st:St} {L:List GOp} {d:Option Tmp} {ty:TypeId}
theorem O.makeFunc{f:FuncId}{caps:Array Operand}:QV P ⟨d,.makeFunc (.func f) #[] caps,ty,none⟩ (.fn f caps.size (fun j=>st.eval (caps.getD j (.func 0)))) st:=fun E M F a w r=>
 ⟨.func (.func f) #[] (caps.map a.eval),by simp[execOp,GOp.oper,Instr.makeFunc],_,rfl,by simp,fun j hj=>⟨a.eval (caps.getD j (.func 0)),by simp[hj,Array.getD],r.eval _⟩⟩
def qbh.zdk(H:qbh)(id:Id)(s:Bool)(g:qb1->Option V):qbh:={ H with slot:=fun i=>bif Id.beq i id then .mp s g else H.slot i }
def qbh.zbn(H:qbh)(s:Bool)(g:qb1->Option V):qbh:={ next:=H.next+1,slot:=fun i=>bif Id.beq i ⟨H.next,[]⟩then .mp s g else H.slot i,lo:=H.lo }
def qyk(H:qbh)(M:Id->Option Nat)(F:Nat->Prop)(w:World)(s:Bool)(g:qb1->Option V)(es:Array MapEntry):Prop:=
 (∀e∈es.toList,∃k:qb1,k.isS=s/\e.key=k.val) /\
  ∀k:qb1,k.isS=s->match g k with
   |none=>∀e∈es.toList,e.key≠k.val
   |some u=>∃(i:Nat) (e:MapEntry),es[i]?=some e/\(e.key=k.val/\∀j,j<i->∀e',es[j]?=some e'->e'.key≠k.val)/\qa0 H M F w u e.val
theorem qyk.ext{H H':qbh}{M ι':Id->Option Nat}{F F':Nat->Prop}{w w':World}{s:Bool}{g:qb1->Option V}{es:Array MapEntry}(h:qyk H M F w s g es)(x:Ext H M F w H' ι' F' w'):qyk H' ι' F' w' s g es:=by
 refine⟨h.1,fun k hk=>?_⟩;have:=h.2 k hk;cases hg:g k with
 |none=>rw[hg]at this;exact this
 |some u=>rw[hg]at this;obtain⟨i,e,a,b,c⟩:=this;exact⟨i,e,a,b,x _ _ c⟩
theorem qde.zdh{E:Env}{M:Id->Option Nat}{F:Nat->Prop}{H:qbh}{w:World}(r:qde E M F H w)(id:Id)(b:Nat)(s:Bool)(g:qb1->Option V)(es':Array MapEntry)(clock':Nat)(w':World)(H':qbh)
  (hH:∀i,H'.slot i=if i=id then .mp s g else H.slot i) (hn:∀i,H'.next<=i.k->i≠id/\H.next<=i.k) (hlo:H'.lo=H.lo)
  (hos:w'.os=w.os) (htape:w'.tape=w.tape) (hout:w'.output=w.output) (hsz:w.heap.size<=w'.heap.size) (hoth:∀k,k≠b->k<w.heap.size->w'.heap[k]?=w.heap[k]?)
  (hb':w'.heap[b]?=some (.map es' clock'))
  (hfresh:b=w.heap.size\/(M id=some b/\(H.slot id).is))
  (hmap:qyk H M F w s g es')
  (hslot:match H.slot id with
   |.qae=>True
   |.mp _ _=>M id=some b
   | _=>False) :
  qde E (upd M id b) F H' w'/\Ext H M F w H' (upd M id b) F w':=by
 have hbF:¬ F b:=by
  rcases hfresh with h|⟨h1,h2⟩
  ·intro hf;have:=r.qny b hf;omega
  ·exact r.qt7 id b h2 h1
 have hF:∀k,F k->w'.heap[k]?=w.heap[k]?:=fun k hk=>hoth k (fun e=>hbF (e▸hk)) (r.qny k hk);have hne:∀i k,i≠id->(H.slot i).is->M i=some k->k≠b:=by
  intro i k hi hl hk e;subst e;rcases hfresh with h|⟨h1,h2⟩
  ·have:=r.lt i k hl hk;omega
  ·exact hi (r.inj i id k hl h2 hk h1)
 have ho:∀i k,i≠id->(H.slot i).is->M i=some k->w'.heap[k]?=w.heap[k]?:=fun i k hi hl hk=>hoth k (hne i k hi hl hk) (r.lt i k hl hk);have hx:Ext H M F w H' (upd M id b) F w':=by
  refine Ext.of (fun _ h=>h) hF fun i=>?_;unfold qf6;by_cases hi:i=id
  ·subst hi;rw[hH,if_pos rfl];cases hs:H.slot i with
   |qae=>trivial
   |dead=>rw[hs]at hslot;exact hslot.elim
   |live o=>rw[hs]at hslot;exact hslot.elim
   |mp s0 g0=>
    rw[hs]at hslot;exact .inr ⟨⟨s,g,rfl⟩,by simp only[upd,if_true];exact hslot.symm⟩
  ·rw[hH,if_neg hi];cases hs:H.slot i with
   |qae=>trivial
   |dead=>rfl
   |mp s g=>exact .inr ⟨⟨s,g,rfl⟩,by simp[upd,hi]⟩
   |live o=>
    refine .inr ⟨o,rfl,zi7 _,fun _=>⟨rfl,rfl,zi7 _,by simp[upd,hi],fun b0 cur hb0 hcur=>⟨cur,?_,rfl⟩⟩⟩;rw[ho i b0 hi (by rw[hs];trivial) hb0];exact hcur
 have hid:(H'.slot id)=.mp s g:=by rw[hH,if_pos rfl]
 have hwas:∀i,i≠id->(H'.slot i).is->(H.slot i).is:=fun i hi h=>by rw[hH,if_neg hi]at h;exact h
 have hι:∀i,i≠id->upd M id b i=M i:=fun i hi=>by simp[upd,hi]
 have hιd:upd M id b id=some b:=by simp[upd]
 have hblt:b<w'.heap.size:=(zkl.1 hb').1;refine⟨⟨hos.trans r.os,htape.trans r.tape,hout.trans r.output,zj6 r.size hsz,fun k hk hW=>?_,fun i o hi=>?_,fun i s' g' hi=>?_,fun i i' k hi hi' hk hk'=>?_,fun i k hi hk=>?_,
  fun i k hi hk=>?_,fun i k hi hk=>?_,fun k hk=>zkg (r.qny k hk) hsz,r.qx3,fun i hi=>?_,r.ext.trans hx,by rw[hlo];exact r.lo⟩,hx⟩
 ·have hkb:k≠b:=by
   intro e;subst e;rcases hfresh with h|⟨h1,h2⟩
   ·have:=r.size;omega
   ·rcases r.own id k h2 h1 with h|h
    ·exact hW h
    ·omega
  rw[hoth k hkb (zkg hk r.size)];exact r.kept k hk hW
 ·have h:i≠id:=fun e=>by subst e;rw[hid]at hi;cases hi
  rw[hH,if_neg h]at hi;obtain⟨h1,h2⟩:=r.obj i o hi;refine⟨h1,?_⟩;rw[hι i h];cases hk:M i with
  |none=>rw[hk]at h2;exact h2
  |some k=>
   rw[hk]at h2;obtain⟨cur,g1,g2,g3⟩:=h2;exact⟨cur,by rw[ho i k h (by rw[hi];trivial) hk];exact g1,g2,fun i hi j hj=>by obtain⟨c,a,b,d⟩:=g3 i hi j hj;exact⟨c,a,b,hx _ _ d⟩⟩
 ·by_cases h:i=id
  ·subst h;rw[hid]at hi;injection hi with e1 e2;subst e1;subst e2;exact⟨b,es',clock',hιd,hb',(hmap.ext hx).1,(hmap.ext hx).2⟩
  ·rw[hH,if_neg h]at hi;obtain⟨k,es,clock,g1,g2,g3,g4⟩:=r.qyn i s' g' hi;refine⟨k,es,clock,by rw[hι i h];exact g1,by rw[ho i k h (by rw[hi];trivial) g1];exact g2,g3,fun key hkey=>?_⟩
   have:=g4 key hkey;cases hg:g' key with
   |none=>rw[hg]at this;exact this
   |some u=>rw[hg]at this;obtain⟨n,e,a,b,c⟩:=this;exact⟨n,e,a,b,hx _ _ c⟩
 ·by_cases h:i=id
  ·by_cases h':i'=id
   ·exact h.trans h'.symm
   ·subst h;rw[hιd]at hk;rw[hι i' h']at hk';exact absurd (Option.some.inj hk).symm (hne i' k h' (hwas i' h' hi') hk')
  ·by_cases h':i'=id
   ·subst h';rw[hιd]at hk';rw[hι i h]at hk;exact absurd (Option.some.inj hk').symm (hne i k h (hwas i h hi) hk)
   ·rw[hι i h]at hk;rw[hι i' h']at hk';exact r.inj i i' k (hwas i h hi) (hwas i' h' hi') hk hk'
 ·by_cases h:i=id
  ·subst h;rw[hιd]at hk;rw[<- Option.some.inj hk];exact hbF
  ·rw[hι i h]at hk;exact r.qt7 i k (hwas i h hi) hk
 ·by_cases h:i=id
  ·subst h;rw[hιd]at hk;rw[<- Option.some.inj hk];rcases hfresh with h|⟨h1,h2⟩
   ·right;rw[h];exact r.size
   ·exact r.own i b h2 h1
  ·rw[hι i h]at hk;exact r.own i k (hwas i h hi) hk
 ·by_cases h:i=id
  ·subst h;rw[hιd]at hk;rw[<- Option.some.inj hk];exact hblt
  ·rw[hι i h]at hk;exact zkg (r.lt i k (hwas i h hi) hk) hsz
 ·obtain⟨h1,h2⟩:=hn i hi;rw[hH,if_neg h1];exact r.next i h2
structure zhq(P:Program)(t:TypeId)(s:Bool)(e:TypeId):Prop where
 d:∃k,P.underlying t=some (.map k e)/\P.underlying k=some (if s=true then .string else .int .i64)
theorem qb1.val_inj{a b:qb1}(h:a.val=b.val):a=b:=by
 cases a<;>cases b<;>simp[qb1.val]at h<;>simp[h]
theorem q6x{a b:qb1}(h:a.isS=b.isS):Instr.sameNow (if a.isS=true then .string else .int .i64) a.val b.val=some (decide (a=b)):=by
 cases a<;>cases b<;>first|(cases h;done)|skip
 ·rename_i m n;simp only[qb1.isS,qb1.val,Instr.sameNow,zjw,if_false,if_true];simp only[Option.some.injEq];by_cases e:m=n<;>simp[e]
 ·rename_i m n;simp only[qb1.isS,qb1.val,Instr.sameNow,if_true];simp only[Option.some.injEq];by_cases e:m=n
  ·subst e;simpa using(MapKept.bytes_beq m m).2 rfl
  ·have:(m==n)=false:=by
    cases h2:(m==n)with
    |false=>rfl
    |true=>exact absurd ((MapKept.bytes_beq m n).1 h2) e
   simp[this,e]
theorem qm4{s:Bool}{k:qb1}(hk:k.isS=s):∀(l:List MapEntry) (i:Nat),(∀e∈l,∃q:qb1,q.isS=s/\e.key=q.val) ->
  (Instr.findNow (if s=true then .string else .int .i64) k.val l i=some none/\∀e∈l,e.key≠k.val) \/
  ∃j e,l[j]?=some e/\(e.key=k.val/\∀j',j'<j->∀e',l[j']?=some e'->e'.key≠k.val)/\Instr.findNow (if s=true then .string else .int .i64) k.val l i=some (some (i+j,e.val))
 |[],i,h=>.inl ⟨rfl,fun e he=>by cases he⟩
 |e::l,i,h=>by
  obtain⟨q,hq,he⟩:=h e (by simp);have hb:Instr.sameNow (if s=true then .string else .int .i64) k.val e.key=some (decide (k=q)):=by rw[he,<- hk];exact q6x (by rw[hk,hq])
  simp only[Instr.findNow,hb];by_cases hkq:k=q
  ·refine .inr ⟨0,e,rfl,⟨by rw[he,hkq],fun j' hj=>absurd hj (zjj _)⟩,?_⟩;rw[decide_eq_true hkq];rfl
  ·rw[decide_eq_false hkq];rcases qm4 hk l (i+1) (fun e he=>h e (by simp[he]))with⟨h1,h2⟩|⟨j,e',h1,h2,h3⟩
   ·refine .inl ⟨h1,fun e' he'=>?_⟩;rcases zjx.1 he' with rfl|he'
    ·rw[he];exact fun x=>hkq (qb1.val_inj x).symm
    ·exact h2 e' he'
   ·refine .inr ⟨j+1,e',by simpa using h1,⟨h2.1,fun j' hj e2 he2=>?_⟩,by rw[h3];simp;omega⟩
    cases j' with
    |zero=>simp at he2;subst he2;rw[he];exact fun x=>hkq (qb1.val_inj x).symm
    |succ j'=>exact h2.2 j' (by omega) e2 (by simpa using he2)
section
variable {t e:TypeId} {s:Bool} {w:World}
theorem qm5{kt:TypeId}(hd:P.underlying kt=some (if s=true then .string else .int .i64)){k:qb1}(hk:k.isS=s){es:List MapEntry}(h:∀e∈es,∃q:qb1,q.isS=s/\e.key=q.val) :
  ((Instr.findKey kt k.val es).run P w=.ok none w/\∀e∈es,e.key≠k.val) \/
  ∃(j:Nat) (e:MapEntry),es[j]?=some e/\(e.key=k.val/\∀j',j'<j->∀e',es[j']?=some e'->e'.key≠k.val)/\(Instr.findKey kt k.val es).run P w=.ok (some (j,e.val)) w:=by
 rcases qm4 hk es 0 h with⟨h1,h2⟩|⟨j,e,h1,h2,h3⟩
 ·refine .inl ⟨?_,h2⟩;simp only[Instr.findKey,Sem.run_bind,qal hd,Result.andThen_ok,h1];rfl
 ·refine .inr ⟨j,e,h1,h2,?_⟩;simp only[Instr.findKey,Sem.run_bind,qal hd,Result.andThen_ok,h3,zjf];rfl
theorem qff{kt:TypeId}{em:Bool}(hd:P.underlying kt=some (if s=true then .string else .int .i64)){k:qb1}(hk:k.isS=s)(n:Nat):(Instr.checkKey em (n+1) kt k.val).run P w=.ok () w:=by
 simp only[Instr.checkKey,Sem.run_bind,qal hd,Result.andThen_ok]
 cases s<;>cases k<;>first|(cases hk;done)|rfl
theorem qh0{b:Nat}{es:Array MapEntry}{c:Nat}(h:w.heap[b]?=some (.map es c)):(getObj b).run P w=.ok (.map es c) w:=MapKept.run_getObj_map h
end
theorem qpt(n:Nat)(k:qb1):Instr.sameBits n k.val k.val=true:=by
 cases k with
 |i m=>simp[qb1.val,Instr.sameBits]
 |s b=>simp only[qb1.val,Instr.sameBits];exact(MapKept.bytes_beq b b).2 rfl
theorem qv8{E:Env}{M:Id->Option Nat}{F:Nat->Prop}{a:Act}{w:World}(r:Rel E M F st a w){x:Operand}{id:Id}{s:Bool}{g:qb1->Option V}(hx:st.eval x=.qca id)(ho:st.heap.slot id=.mp s g) :
  ∃b es clock,a.eval x=.map (some b)/\M id=some b/\w.heap[b]?=some (.map es clock)/\qyk st.heap M F w s g es:=by
 have hr:=r.eval x;rw[hx]at hr;obtain⟨_,h2⟩:=hr;rw[ho]at h2;obtain⟨b,hb,hv⟩:=h2;obtain⟨b',es,clock,g1,g2,g3,g4⟩:=r.h.qyn _ s g ho;rw[hb]at g1;injection g1 with g1;subst g1;exact⟨b,es,clock,hv,hb,g2,g3,g4⟩
theorem SL.makeMap{t:TypeId}{s:Bool}(hk:SL P L Q ((st.on (st.heap.zbn s (fun _=>none))).put d (.qca ⟨st.heap.next,[]⟩))):SL P (⟨d,.makeMap t none,ty,none⟩::L) Q st:=
 SL.value rfl fun E M F a w r=>by
  obtain⟨g1,g2⟩:=r.h.zdh ⟨st.heap.next,[]⟩ w.heap.size s (fun _=>none) #[] 0 (w.alloc (.map #[] 0)) (st.heap.zbn s (fun _=>none)) (fun i=>by
    simp only[qbh.zbn];by_cases h:i=⟨st.heap.next,[]⟩
    ·rw[if_pos h,Id.beq_iff.2 h];rfl
    ·have:Id.beq i ⟨st.heap.next,[]⟩=false:=by
      cases hb:Id.beq i ⟨st.heap.next,[]⟩with
      |false=>rfl
      |true=>exact absurd (Id.beq_iff.1 hb) h
     rw[if_neg h,this];rfl)
   (fun i hi=>by
    have hi:st.heap.next+1<=i.k:=hi;exact⟨fun e=>by subst e;exact absurd hi (by simp),by omega⟩) rfl rfl rfl rfl (by show w.heap.size<=(w.heap.push _).size;simp) (fun k _ hk=>(MapKept.heap_alloc w _).2 k hk) (MapKept.heap_alloc w _).1 (.inl rfl)
   ⟨fun e he=>by simp at he,fun k hk e he=>by simp at he⟩ (by rw[r.h.next _ (zi7 _)];trivial)
  refine⟨.map (some w.heap.size),_,_,F,_,.qca ⟨st.heap.next,[]⟩,?_,g1,g2,⟨rfl,?_⟩,hk⟩
  ·rfl
  ·have:(st.heap.zbn s (fun _=>none)).slot ⟨st.heap.next,[]⟩=.mp s (fun _=>none):=by simp only[qbh.zbn,Id.beq_refl];rfl
   rw[this];exact⟨w.heap.size,by simp[upd],rfl⟩
def q9k(g:qb1->Option V)(k:qb1)(u:V):qb1->Option V:=fun x=>if x=k then some u else g x
theorem SL.mapUpdate{t e:TypeId}{s:Bool}(ht:zhq P t s e){x y z:Operand}{id:Id}{g:qb1->Option V}{k:qb1}{u:V}(hx:st.eval x=.qca id)(ho:st.heap.slot id=.mp s g)(hks:k.isS=s)
  (hy:∀E M F a w,Rel E M F st a w->a.eval y=k.val) (hz:∀E M F a w,Rel E M F st a w->qa0 st.heap M F w u (a.eval z))
  (hk:SL P L Q ((st.on (st.heap.zdk id s (q9k g k u))).put d .un)):SL P (⟨d,.mapUpdate t x y z,ty,none⟩::L) Q st:=
 SL.skip rfl fun E M F a w r=>by
  obtain⟨kt,hd,hdk⟩:=ht.d;obtain⟨b,es,clock,hv,hb,hh,hm⟩:=qv8 r hx ho;have hu:=hz E M F a w r;have hlt:b<w.heap.size:=(zkl.1 hh).1;have key:∃es' clock',(Instr.mapUpdate t (a.eval x) (a.eval y) (a.eval z)).run P w=.ok () { w with heap:=w.heap.setIfInBounds b (.map es' clock') }/\qyk st.heap M F w s (q9k g k u) es':=by
   rw[hv,hy E M F a w r];rcases qm5 (w:=w) hdk hks hm.1 with⟨h1,h2⟩|⟨j,en,h1,h2,h3⟩
   ·refine⟨es.push ⟨k.val,a.eval z,clock⟩,clock+1,?_,?_,fun q hq=>?_⟩
    ·simp only[Instr.mapUpdate,Sem.run_bind,qal hd,Result.andThen_ok,qh0 hh,qff hdk hks 9999,h1,MapKept.run_setObj_map _ hh]
    ·intro en hen;rw[Array.toList_push]at hen;rcases zjp.1 hen with hen|hen
     ·exact hm.1 en hen
     ·simp only[zki]at hen;subst hen;exact⟨k,hks,rfl⟩
    ·unfold q9k;by_cases hqk:q=k
     ·subst hqk;rw[if_pos rfl];refine⟨es.size,⟨q.val,a.eval z,clock⟩,by simp,⟨rfl,fun j hj e' he'=>?_⟩,hu⟩;rw[Array.getElem?_push_lt hj]at he';injection he' with he';exact h2 e' (by rw[<- he'];exact zlc _)
     ·rw[if_neg hqk];have h4:=hm.2 q hq;cases hg:g q with
      |none=>
       rw[hg]at h4;intro en hen;rw[Array.toList_push]at hen;rcases zjp.1 hen with hen|hen
       ·exact h4 en hen
       ·simp only[zki]at hen;subst hen;exact fun x=>hqk (qb1.val_inj x).symm
      |some v=>
       rw[hg]at h4;obtain⟨i,en,h5,h6,h7⟩:=h4;have hi:i<es.size:=(zkl.1 h5).1;refine⟨i,en,by rw[Array.getElem?_push_lt hi,<- h5];exact(zjt hi).symm,⟨h6.1,fun j hj e' he'=>h6.2 j hj e' ?_⟩,h7⟩
       rw[Array.getElem?_push_lt (by omega)]at he';rw[<- he'];exact zjt _
   ·have hj:j<es.size:=by
     have:=(zk5.1 h1).1;simpa using this
    have hje:es[j]?=some en:=by rw[<- zkf];exact h1
    have hmod:∀i:Nat,(es.modify j fun e=>{ e with key:=k.val,val:=a.eval z })[i]?=if j=i then es[i]?.map (fun e=>{ e with key:=k.val,val:=a.eval z })else es[i]?:=fun i=>by
     rw[Array.getElem?_modify]
    refine⟨es.modify j fun e=>{ e with key:=k.val,val:=a.eval z },clock,?_,?_,fun q hq=>?_⟩
    ·simp only[Instr.mapUpdate,Sem.run_bind,qal hd,Result.andThen_ok,qh0 hh,qff hdk hks 9999,h3];have:((Option.map (fun x=>x.key) es[j]?).getD k.val)=k.val:=by rw[hje];exact h2.1
     rw[this];simp only[Instr.keyThatStays,qpt,if_true,Sem.run_pure,Result.andThen_ok,MapKept.run_setObj_map _ hh]
    ·intro e2 he2;obtain⟨i,hi,rfl⟩:=zky he2;have h8:=hmod i;have hi':i<es.size:=by simpa using hi
     have h9:(es.modify j fun e=>{ e with key:=k.val,val:=a.eval z })[i]?=some ((es.modify j fun e=>{ e with key:=k.val,val:=a.eval z }).toList[i]):=by
      rw[<- zkf];exact zjc hi
     rw[h9]at h8;by_cases hji:j=i
     ·rw[if_pos hji,zjt hi']at h8;injection h8 with h8;rw[h8];exact⟨k,hks,rfl⟩
     ·rw[if_neg hji,zjt hi']at h8;injection h8 with h8;rw[h8];exact hm.1 _ (zlc _)
    ·unfold q9k;have hkey:∀(i:Nat) e',(es.modify j fun e=>{ e with key:=k.val,val:=a.eval z })[i]?=some e'->∃e0,es[i]?=some e0/\e0.key=e'.key:=by
      intro i e' he';rw[hmod]at he';by_cases hji:j=i
      ·subst hji;rw[if_pos rfl,hje]at he';injection he' with he';subst he';exact⟨en,hje,h2.1⟩
      ·rw[if_neg hji]at he';exact⟨e',he',rfl⟩
     by_cases hqk:q=k
     ·subst hqk;rw[if_pos rfl];refine⟨j,⟨q.val,a.eval z,en.born⟩,by rw[hmod,if_pos rfl,hje];rfl,⟨rfl,fun i hi e' he'=>?_⟩,hu⟩
      obtain⟨e0,q1,q2⟩:=hkey i e' he';rw[<- q2];exact h2.2 i hi e0 (by rw[zkf];exact q1)
     ·rw[if_neg hqk];have h4:=hm.2 q hq;cases hg:g q with
      |none=>
       rw[hg]at h4;intro e2 he2;obtain⟨i,hi,rfl⟩:=zky he2;obtain⟨e0,q1,q2⟩:=hkey i _ (by rw[<- zkf];exact zjc hi)
       rw[<- q2];have hi0:=(zkl.1 q1)
       obtain⟨hi0,q1⟩:=hi0;exact h4 e0 (by rw[<- q1];exact zlc _)
      |some v=>
       rw[hg]at h4;obtain⟨i,e2,h5,h6,h7⟩:=h4;have hji:j≠i:=fun e=>by
        subst e;rw[hje]at h5;injection h5 with h5;subst h5;exact hqk (qb1.val_inj (h6.1.symm.trans h2.1))
       refine⟨i,e2,by rw[hmod,if_neg hji];exact h5,⟨h6.1,fun i' hi' e' he'=>?_⟩,h7⟩
       obtain⟨e0,q1,q2⟩:=hkey i' e' he';rw[<- q2];exact h6.2 i' hi' e0 q1
  obtain⟨es',clock',hrun,hm'⟩:=key;obtain⟨g1,g2⟩:=r.h.zdh id b s (q9k g k u) es' clock' { w with heap:=w.heap.setIfInBounds b (.map es' clock') } (st.heap.zdk id s (q9k g k u)) (fun i=>by
    simp only[qbh.zdk];by_cases h:i=id
    ·rw[if_pos h,Id.beq_iff.2 h];rfl
    ·have:Id.beq i id=false:=by
      cases hb:Id.beq i id with
      |false=>rfl
      |true=>exact absurd (Id.beq_iff.1 hb) h
     rw[if_neg h,this];rfl)
   (fun i hi=>⟨fun e=>(by subst e;rw[r.h.next _ hi]at ho;cases ho),hi⟩) rfl rfl rfl rfl (by simp) (fun k hk _=>(MapKept.heap_set hh).2 k hk) (MapKept.heap_set hh).1 (.inr ⟨hb,by rw[ho];trivial⟩) hm' (by rw[ho];exact hb)
  refine⟨_,_,F,_,?_,g1,g2,hk⟩;simp only[execOp,GOp.oper,Sem.run_bind,hrun,Result.andThen_ok,Sem.run_pure]
theorem O.lookup{t e:TypeId}{s:Bool}(ht:zhq P t s e){zv:Value}[hz:qbe P e zv]{x y:Operand}{id:Id}{g:qb1->Option V}{k:qb1}(hx:st.eval x=.qca id)(ho:st.heap.slot id=.mp s g)(hks:k.isS=s)
  (hy:∀E M F a w,Rel E M F st a w->a.eval y=k.val) :
  QV P ⟨d,.lookup t x y false,ty,none⟩ ((g k).getD (V.ofValue zv)) st/\QV P ⟨d,.lookup t x y true,ty,none⟩ (.tup 2 (fun j=>if j=0 then(g k).getD (V.ofValue zv)else .t (.bool (g k).isSome))) st:=by
 have hzr:∀w:World,(zeroValue e).run P w=.ok zv w:=fun w=>qiw w;have key:∀E M F a w,Rel E M F st a w->∃v,qa0 st.heap M F w ((g k).getD (V.ofValue zv)) v/\(∀ok,(Instr.lookup t (a.eval x) (a.eval y) ok).run P w=.ok (if ok=true then .tuple #[v,.bool (g k).isSome]else v) w):=by
  intro E M F a w r;obtain⟨kt,hd,hdk⟩:=ht.d;obtain⟨b,es,clock,hv,hb,hh,hm⟩:=qv8 r hx ho;rw[hv,hy E M F a w r];have h4:=hm.2 k hks;rcases qm5 (w:=w) hdk hks hm.1 with⟨h1,h2⟩|⟨j,en,h1,h2,h3⟩
  ·have hg:g k=none:=by
    cases hg:g k with
    |none=>rfl
    |some u=>
     rw[hg]at h4;obtain⟨i,en,h5,h6,_⟩:=h4;obtain⟨hi,h5⟩:=zkl.1 h5;exact absurd h6.1 (h2 en (by rw[<- h5];exact zlc _))
   rw[hg];refine⟨zv,V.qmj _ _ _ _ _,fun ok=>?_⟩;simp only[Instr.lookup,Sem.run_bind,qal hd,Result.andThen_ok,qh0 hh,Sem.run_pure,qff hdk hks 9999,h1,hzr];cases ok<;>rfl
  ·have h1':es[j]?=some en:=by rw[<- zkf];exact h1
   obtain⟨hj,h1''⟩:=zkl.1 h1';cases hg:g k with
   |none=>rw[hg]at h4;exact absurd h2.1 (h4 en (by rw[<- h1''];exact zlc _))
   |some u=>
    rw[hg]at h4;obtain⟨i,e2,h5,h6,h7⟩:=h4;have hij:i=j:=by
     rcases Nat.lt_trichotomy i j with h|h|h
     ·exact absurd h6.1 (h2.2 i h e2 (by rw[zkf];exact h5))
     ·exact h
     ·exact absurd h2.1 (h6.2 j h en h1')
    subst hij;rw[h1']at h5;injection h5 with h5;subst h5;refine⟨en.val,h7,fun ok=>?_⟩;simp only[Instr.lookup,Sem.run_bind,qal hd,Result.andThen_ok,qh0 hh,Sem.run_pure,qff hdk hks 9999,h3];cases ok<;>rfl
 constructor
 ·intro E M F a w r;obtain⟨v,h1,h2⟩:=key E M F a w r;refine⟨v,?_,h1⟩;simp only[execOp,GOp.oper,Sem.run_bind,h2,Result.andThen_ok,Sem.run_pure];rfl
 ·intro E M F a w r;obtain⟨v,h1,h2⟩:=key E M F a w r;refine⟨_,by simp only[execOp,GOp.oper,Sem.run_bind,h2,Result.andThen_ok,Sem.run_pure,if_true],#[v,.bool (g k).isSome],rfl,rfl,fun j hj=>?_⟩
  match j,hj with
  |0,_=>exact⟨v,rfl,h1⟩
  |1,_=>exact⟨_,rfl,rfl⟩
end Go.Abs
