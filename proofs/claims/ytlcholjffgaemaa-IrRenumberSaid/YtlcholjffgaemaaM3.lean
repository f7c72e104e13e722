/-
Texts of the proof, part 3: G9 K1 G10 H1 H2 H3 H4 H5 H6 K2 J1.
No statement of the program is proved here.
-/
import Derived.Test.YtlcholjffgaemaaM2
import Derived.Laws.StructEq
import Derived.Laws.Slices
import Derived.MapKept
set_option linter.unusedVariables false
set_option linter.unusedSimpArgs false
set_option linter.unusedSectionVars false
namespace Go.Abs
open Go
noncomputable section
variable {P:Program} {d:Option Tmp} {ty:TypeId} {L:List GOp} {ρ:Type}
section
variable [SU] [qa2] {Q:Exit->ESt->Prop}
def q41(k:Nat)(N:Ty)(l:List N.D):Nat->List Nat->Option EV:=fun id p=>bif Nat.beq id k then(match p with
 |[]=>some (.fz N l)
 | _::_=>some .un)else none
def qad.frz(H:qad)(k:Nat)(v:LV):qad:={ H with obj:=fun j=>bif Nat.beq j k then .dead else qbw (q41 k v.N v.l) (H.obj j) }
def ESt.frz(s:ESt)(k:Nat)(v:LV):ESt:={ s with env:=fun t=>qa9 (q41 k v.N v.l) (s.env t),heap:=s.heap.frz k v }
theorem qb1.frz{s:ESt}{k:Nat}{v:LV}(ho:s.heap.obj k=.lst v)(hflat:qj2 v.N=true):qb1 s (s.frz k v):=qgs.fair fun hf=>by
 let m:Id->Option Id:=fun i=>if i.k=k then none else some i
 let Z:Id->Prop:=fun i=>i=⟨k,[]⟩
 let H':=s.heap.frz k v
 have hat:s.heap.at k []=some v:=by simp only[qad.at,ho,LV.qa6]
 have hlive:=qb3 hat;have hobj:∀j,j≠k->H'.obj j=qbw (q41 k v.N v.l) (s.heap.obj j):=fun j h=>by simp only[H',qad.frz,qav h,cond_false]
 have hne:∀id p,q41 k v.N v.l id p=none->id≠k:=fun id p h e=>by
  subst e;simp only[q41,zhc,cond_true]at h;cases p<;>cases h
 have hdead:∀p,(toH H').slot ⟨k,p⟩=.dead:=fun p=>by
  show(H'.obj k).slot _ _ _=_;simp only[H',qad.frz,zhc,cond_true];rfl
 have hk:qbm (q41 k v.N v.l) s.heap (toH s.heap) H' m Z:=⟨fun id p u h=>by
   by_cases e:id=k
   ·subst e;simp only[q41,zhc,cond_true]at h;cases p with
    |cons x y=>injection h with h;subst h;simp only[toV];exact KG.un
    |nil=>
     injection h with h;subst h;simp only[toV,qad.qf1 hat]
     rintro E M F w c rr ⟨h0,h1⟩
     rw[hlive]at h1;obtain⟨hn,A,cap,g1,g2,g3⟩:=h1.2 rfl;obtain⟨o1,o2⟩:=rr.obj _ _ hlive;refine⟨A,cap,g1,g2,o1,fun hpos=>?_⟩;obtain⟨b,cur,p1,p2,p3,p4⟩:=g3 (by omega);rw[p1]at o2;obtain⟨cur',q1,q2,q3⟩:=o2;rw[p3]at q1;injection q1 with q1;injection q1 with q1;subst q1;refine⟨b,0,by rw[p2,Nat.zero_mul],.inr ⟨⟨id,[]⟩,rfl,by rw[hlive];trivial,p1⟩,fun i hi j hj=>?_⟩
     obtain⟨c',r1,r2,r3⟩:=q3 i hi j hj;refine⟨c',?_,?_⟩
     ·rw[zg9];simp[World.cell?,p3];exact r1
     ·obtain⟨u,e1,e2⟩:=qdt v.N (v.row i) j hflat;have r3:qay (toH s.heap) M F w (qbd s.heap.len id [] i j (qam v.N (v.row i) j)) c':=r3;rw[e1]at r3;simp only[qbd]at r3;rw[e2 hj]at r3;exact Reads.mono (fun b hb=>.inl hb) (fun _ _=>rfl) _ _ r3
   ·simp only[q41,qav e,cond_false]at h;exact(nomatch h),
  fun id p h hb=>by
   have e:=hne id p h;refine .inr ⟨?_,by simp only[m,if_neg e]⟩;show qaz _ ((H'.obj id).slot H'.len id p);rw[hobj id e];exact qb7 hb,
  fun id p h hb=>qad.qdn (hobj id (hne id p h)) p⟩
 have gen:Gen (toH s.heap) (toH H') m Z:=by
  refine Gen.qa9 (fun j=>j=k) hk hf.obj (fun j hj=>⟨fun p=>by simp only[q41,qav hj,cond_false],hobj j hj,fun p=>by simp only[m,if_neg hj],fun p h=>hj (by injection h),fun p=>rfl⟩)
   (fun i hi o' ho'=>?_) (fun i hi sb g' hm=>?_) (fun i j x hi h1' h2' e1 e2=>?_) rfl (fun i hi=>?_) (fun i hi hil hip=>?_)
  ·obtain⟨j,p⟩:=i;simp only at hi;subst hi;rw[hdead]at ho';cases ho'
  ·obtain⟨j,p⟩:=i;simp only at hi;subst hi;rw[hdead]at hm;cases hm
  ·simp only[m,if_pos hi]at e1;cases e1
  ·by_cases hik:i.k=k
   ·exfalso;have hi:s.heap.next<=i.k:=hi;have:=hf.next ⟨k,[]⟩ (by rw[<- hik];exact hi)
    rw[hlive]at this;cases this
   ·show(H'.obj i.k).slot _ _ _=_;rw[hobj _ hik];exact qcm.2 (hf.next i hi)
  ·obtain⟨j,p⟩:=i;simp only at hi;subst hi;exact .inr (.inl (hdead p))
 refine qgs.gen m Z rfl gen (fun t=>qbm.keeps hk _ (hf.env t))
def qpr:EV->List Nat
 |.qa5 k []=>[k]
 |.agg l=>l.filterMap fun u=>match u with
  |.qa5 k []=>some k
  |_=>none
 |_=>[]
def qh0(s:ESt)(K:ESt->Option ρ):List Nat->Option ρ
 |[]=>K s
 |k::ks=>match s.heap.obj k with
  |.lst v=>bif qj2 v.N then qh0 (s.frz k v) K ks else none
  |_=>qh0 s K ks
theorem qdk{K:ESt->Option ρ}{res:ρ}:∀(ks:List Nat) (s:ESt),qh0 s K ks=some res->∃s',qb1 s s'/\K s'=some res
 |[],s,h=>⟨s,qb1.refl s,h⟩
 |k::ks,s,h=>by
  unfold qh0 at h;split at h
  ·rename_i v ho;obtain⟨h1,h⟩:=qaf h;obtain⟨s',q1,q2⟩:=qdk ks _ h;exact⟨s',(qb1.frz ho h1).trans q1,q2⟩
  ·exact qdk ks _ h
def qsz:List EV->Nat->EV->List EV
 |[],_,_=>[]
 |_::l,0,v=>v::l
 |a::l,n+1,v=>a::qsz l n v
theorem qhi:∀(l:List EV) (c:Nat) (v:EV),(qsz l c v).length=l.length
 |[],c,v=>rfl
 |a::l,0,v=>rfl
 |a::l,n+1,v=>by simp[qsz,qhi l n v]
theorem qlv(len:Len):∀(l:List EV) (c:Nat) (v:EV) (j:Nat),j<l.length->qa3 len (qsz l c v) j=if j=c then toV len v else qa3 len l j
 |[],c,v,j,h=>absurd h (zhf _)
 |a::l,0,v,0,h=>by simp[qsz,qa3]
 |a::l,0,v,j+1,h=>by simp[qsz,qa3]
 |a::l,n+1,v,0,h=>by simp[qsz,qa3]
 |a::l,n+1,v,j+1,h=>by
  simp only[qsz,qa3];rw[qlv len l n v j (by simpa using h)];simp
def qnq:List EV->Nat->List EV->List EV
 |l,_,[]=>l
 |l,c,v::m=>qnq (qsz l c v) (c+1) m
theorem qlt:∀(m l:List EV) (c:Nat),(qnq l c m).length=l.length
 |[],l,c=>rfl
 |v::m,l,c=>by simp only[qnq];rw[qlt m,qhi]
theorem qpi(len:Len):∀(m l:List EV) (c:Nat) (j:Nat),j<l.length->qa3 len (qnq l c m) j=if c<=j/\j<c+m.length then qa3 len m (j-c)else qa3 len l j
 |[],l,c,j,h=>by rw[if_neg (by simp only[zg1,zg7];omega)];rfl
 |v::m,l,c,j,h=>by
  simp only[qnq];rw[qpi len m _ (c+1) j (by rw[qhi];exact h),qlv len l c v j h]
  by_cases h2:c+1<=j/\j<c+1+m.length
  ·rw[if_pos h2,if_pos (by simp only[zg1,zg7];omega)]
   have e:j-c=(j-(c+1))+1:=by omega
   rw[e];simp only[qa3]
  ·rw[if_neg h2];by_cases h3:j=c
   ·rw[if_pos h3,if_pos (by simp only[zg1,zg7];omega)]
    have e:j-c=0:=by omega
    rw[e];simp only[qa3]
   ·rw[if_neg h3,if_neg (by simp only[zg1,zg7];omega)]
theorem quc{a b c d:Nat}{x y:V}:(bif Nat.beq a b&&Nat.beq c d then x else y)=if a=b/\c=d then x else y:=by
 by_cases h1:a=b
 ·subst h1;by_cases h2:c=d
  ·subst h2;simp
  ·rw[qav h2,if_neg (fun e=>h2 e.2)];simp
 ·rw[qav h1,if_neg (fun e=>h1 e.1)];simp
theorem q66{i r c j n:Nat}{x y:V}:(bif Nat.beq i r&&(Nat.ble c j&&Nat.blt j (c+n))then x else y)=if i=r/\c<=j/\j<c+n then x else y:=by
 by_cases h1:i=r
 ·subst h1;by_cases h2:c<=j
  ·by_cases h3:j<c+n
   ·rw[Nat.ble_eq_true_of_le h2,qdc h3,if_pos ⟨rfl,h2,h3⟩];simp
   ·rw[qdv (zhz h3),if_neg (fun e=>h3 e.2.2)];simp
  ·have:Nat.ble c j=false:=by
    cases hb:Nat.ble c j with
    |false=>rfl
    |true=>exact absurd (zg4 hb) h2
   rw[this,if_neg (fun e=>h2 e.2.1)];simp
 ·rw[qav h1,if_neg (fun e=>h1 e.1)];simp
inductive qkm(s:ESt)(id:Nat)(e:TypeId)(m:List EV):Prop where
 |cells (ho:s.heap.obj id=.cells e m)
 |box {N:Ty} {x:N.D} (ho:s.heap.obj id=.lst ⟨e,N,[x]⟩) (hf:qj2 N=true) (hm:m=qc3 id [] N x 0 0 N.sz)
theorem qkm.slot{s:ESt}{id:Nat}{e:TypeId}{m:List EV}(h:qkm s id e m):∃o,(toH s.heap).slot ⟨id,[]⟩=.live o/\o.ver=0/\o.elem=e/\o.sz=m.length/\o.n=1/\(∀c,c<m.length->o.get 0 c=qa3 s.heap.len m c)/\∀p,p≠[]->(toH s.heap).slot ⟨id,p⟩=.qae:=by
 cases h with
 |cells ho=>
  refine⟨_,qc9 ho,rfl,rfl,rfl,rfl,fun c hc=>rfl,fun p hp=>?_⟩;show(s.heap.obj id).slot _ _ _=_
  rw[ho];cases p<;>first|exact absurd rfl hp|rfl
 |@box N x ho hf hm=>
  have hat:s.heap.at id []=some ⟨e,N,[x]⟩:=by simp only[qad.at,ho,LV.qa6]
  refine⟨_,qb3 hat,rfl,rfl,by rw[hm,qb0];rfl,rfl,fun c hc=>?_,fun p hp=>?_⟩
  ·rw[hm,qb0]at hc;rw[hm,qds _ _ _ _ _ _ _ _ _ hc,zg9];exact(qne (v:=⟨e,N,[x]⟩) hat 0 c).symm
  ·show(s.heap.obj id).slot _ _ _=_;rw[ho];exact OD.qi6 (o:=.lst ⟨e,N,[x]⟩) hf p hp
theorem qn3{s:ESt}{id:Nat}{e:TypeId}{m m':List EV}{o1:qcu}(hf:Fair s)(hc:qkm s id e m)(hl:m'.length=m.length)(hb:∀j,j<m'.length->qfq (toH s.heap) (qa3 s.heap.len m' j))
  (h1:o1.ver=0) (h2:o1.elem=e) (h3:o1.sz=m.length) (h4:o1.n=1) (h5:∀j,j<m.length->Wk (o1.get 0 j) (qa3 s.heap.len m' j)) (d:Option Tmp) :
  qgs (((qbc s).on ((qbc s).heap.set ⟨id,[]⟩ o1)).put d .un) (qbc ((s.on (s.heap.set id (.cells e m'))).put d .un)):=by
 obtain⟨o,q1,q2,q3,q4,q5,q6,q7⟩:=hc.slot;have hlen:∀j p,(s.heap.set id (.cells e m')).len j p=s.heap.len j p:=fun j p=>by
  by_cases hj:j=id
  ·subst hj;unfold qad.len;simp only[qad.set,zhc,cond_true];cases hc with
   |cells ho=>rw[ho];cases p<;>rfl
   |box ho hf hm=>
    rw[ho];cases p with
    |nil=>simp only[OD.len,LV.qa6];rfl
    |cons x y=>simp only[OD.len,LV.qud (v:=⟨e,_,_⟩) hf (x::y) (by simp)]
  ·exact qad.qg7 (qad.qip hj) p
 have hs1:∀i:Id,((qbc s).heap.set ⟨id,[]⟩ o1).slot i=if i=⟨id,[]⟩then .live o1 else(toH s.heap).slot i:=fun i=>by
  show(bif Id.beq i ⟨id,[]⟩then _ else _)=_;exact qef _ _ _ _
 have hsn:∀p,(toH (s.heap.set id (.cells e m'))).slot ⟨id,p⟩=(OD.cells e m').slot (s.heap.set id (.cells e m')).len id p:=fun p=>by
  show((s.heap.set id (.cells e m')).obj id).slot _ _ _=_;simp only[qad.set,zhc,cond_true]
 refine qgv hf id (fun k' hk=>qad.qip hk) (fun j q _=>hlen j q) (fun i hi=>by rw[hs1,if_neg (fun e=>hi (by rw[e]))]) rfl (fun hn i hi=>?_) (fun p hne=>?_) (fun p o' hl'=>?_) (fun p sb g' hl'=>?_) d (fun _=>by simp only[toV];exact Wk.refl _)
 ·by_cases hi2:i.k=id
  ·obtain⟨j,p⟩:=i;simp only at hi2;subst hi2;have:=hn ⟨j,p⟩ hi;rw[hs1]at this;rw[hsn];split at this
   ·cases this
   ·rename_i hne;cases p with
    |nil=>exact absurd rfl hne
    |cons x y=>rfl
  ·have:=hf.next i hi;have h':(s.heap.obj i.k).slot s.heap.len i.k i.p=.qae:=this;show((s.heap.set id (.cells e m')).obj i.k).slot _ _ _=.qae;rw[qad.qip hi2];exact(qfs (len:=s.heap.len)).2.2 h'
 ·rw[hs1]at hne ⊢;rw[hsn];by_cases hp:p=[]
  ·subst hp;rw[if_pos rfl];exact⟨h1.symm,h2.symm,by rw[h3];exact hl,h4.symm⟩
  ·rw[if_neg (fun e=>hp (by injection e))]at hne;exact absurd (q7 p hp) hne
 ·rw[hsn]at hl';rw[hs1];cases p with
  |cons x y=>cases hl'
  |nil=>
   injection hl' with hl';subst hl';refine⟨o1,if_pos rfl,fun r hr c hc=>?_⟩;obtain rfl:r=0:=by omega
   show Wk (o1.get 0 c) (qa3 _ m' c);rw[qf9 (H:=toH s.heap) (fun j p _=>hlen j p) m' hb];exact h5 c (by omega)
 ·rw[hsn]at hl';cases p<;>cases hl'
end
end
end Go.Abs
namespace Go.Abs
open Go
noncomputable section
variable {P:Program} {d:Option Tmp} {ty:TypeId} {L:List GOp} {ρ:Type}
section
variable [SU] [qa2] {Q:Exit->ESt->Prop}
theorem LV.qgk:∀(p:List Nat) (v a:LV),v.at p=some a->p.length % 2=0
 |[],_,_,_=>rfl
 |[x],v,a,h=>by rw[LV.qfi]at h;cases h
 |c::r::p,v,a,h=>by
  rw[LV.qbu]at h;cases hk:v.kid c r with
  |none=>rw[hk]at h;cases h
  |some k=>
   rw[hk]at h;have:=LV.qgk p k a h;simp only[zg1];omega
def qxq(id k n:Nat):Nat->List Nat->Option EV:=fun j q=>bif Nat.beq j k then some .un else bif Nat.beq j id&&Nat.ble n q.length then some .un else none
theorem qnk{id k n j:Nat}{q:List Nat}(h:qxq id k n j q=none):j≠k/\¬ (j=id/\n<=q.length):=by
 unfold qxq at h;cases e1:Nat.beq j k with
 |true=>rw[e1]at h;cases h
 |false=>
  rw[e1]at h;simp only[cond_false]at h;refine⟨fun e=>by subst e;simp at e1,fun⟨e2,e3⟩=>?_⟩
  subst e2;rw[zhc,Nat.ble_eq_true_of_le e3]at h;cases h
theorem qnj{id k n j:Nat}{q:List Nat}{u:EV}(h:qxq id k n j q=some u):u=.un:=by
 unfold qxq at h;cases e1:Nat.beq j k with
 |true=>rw[e1]at h;injection h with h;exact h.symm
 |false=>
  rw[e1]at h;simp only[cond_false]at h;cases e2:Nat.beq j id&&Nat.ble n q.length with
  |true=>rw[e2]at h;injection h with h;exact h.symm
  |false=>rw[e2]at h;cases h
theorem qhq{id k n j:Nat}{q:List Nat}(h1:j≠k)(h2:j=id->q.length<n):qxq id k n j q=none:=by
 unfold qxq;rw[qav h1,cond_false];by_cases e:j=id
 ·have:Nat.ble n q.length=false:=by
   cases hb:Nat.ble n q.length with
   |false=>rfl
   |true=>have:=zg4 hb;have:=h2 e;omega
  rw[this,Bool.and_false,cond_false]
 ·rw[qav e,Bool.false_and,cond_false]
def q2r(id k:Nat)(P:List Nat):Id->Option Id:=fun i=>if i.k=id then(if P <+: i.p then some ⟨k,i.p.drop P.length⟩else some i)else if i.k=k then none else some i
def qad.att(H:qad)(id k:Nat)(P:List Nat)(root':LV):qad:=
 { H with obj:=fun j=>bif Nat.beq j id then .lst root' else bif Nat.beq j k then .dead else qbw (qxq id k P.length) (H.obj j) }
def ESt.att(s:ESt)(id k:Nat)(P:List Nat)(root':LV):ESt:={ s with env:=fun t=>qa9 (qxq id k P.length) (s.env t),heap:=s.heap.att id k P root' }
theorem q2s{s:ESt}{id k:Nat}{p:List Nat}{root v root' w:LV}{r c:Nat}{y:v.N.D}{H1:qbe}{o1:qcu}(hf:Fair s)(hik:id≠k)(ho:s.heap.obj id=.lst root)(hk:s.heap.obj k=.lst w)(hv:root.at p=some v)(hr:r<v.l.length)
  (hc:c<v.N.sz) (hy1:qam v.N y c=.own w.e w.N w.l) (hy2:∀c',c'≠c->qam v.N y c'=qam v.N (v.row r) c') (hp:root.put p (v.setRow r y)=some root')
  (hs1:∀i,H1.slot i=if i=⟨id,p⟩then .live o1 else(toH s.heap).slot i) (hlo:H1.lo=s.heap.lo)
  (h1:o1.ver=0) (h2:o1.elem=v.e) (h3:o1.sz=v.N.sz) (h4:o1.n=v.l.length)
  (h5:∀i,i<v.l.length->∀j,j<v.N.sz->(¬ (i=r/\j=c)/\o1.get i j=(v.obj s.heap.len id p).get i j)\/(i=r/\j=c/\Wk (o1.get i j) (.qbq ⟨k,[]⟩ 0 0 w.l.length)))
  (d:Option Tmp):qgs (((qbc s).on H1).put d .un) (qbc ((s.att id k (p++[c,r]) root').put d .un)):=by
 let PP:List Nat:=p++[c,r]
 let m:Id->Option Id:=q2r id k PP
 let f:=qxq id k PP.length
 let H':=s.heap.att id k PP root'
 obtain⟨a1,a2,a3,a4⟩:=LV.qu4 p root v root' r c y hv hr hy2 hp;have hpe:=LV.qgk p root v hv;have hPP:PP.length=p.length+2:=by simp[PP]
 have atP:∀q,root'.at (PP++q)=w.at q:=fun q=>by
  have e1:root'.at PP=some ⟨w.e,w.N,w.l⟩:=by
   rw[LV.qbv _ _ _ _ a1,LV.at_one];refine LV.qd8 ?_;rw[LV.qbx hr,if_pos rfl];exact hy1
  rw[LV.qbv _ _ _ _ e1]
 have hobj:∀j,j≠id->j≠k->H'.obj j=qbw f (s.heap.obj j):=fun j e1 e2=>by simp only[H',qad.att,qav e1,qav e2,cond_false];rfl
 have hobji:H'.obj id=.lst root':=by simp only[H',qad.att,zhc,cond_true]
 have hobjk:H'.obj k=.dead:=by simp only[H',qad.att,qav (fun e=>hik e.symm),cond_false,zhc,cond_true]
 have hsl:∀q,(toH s.heap).slot ⟨id,q⟩=(OD.lst root).slot s.heap.len id q:=fun q=>by show(s.heap.obj id).slot _ _ _=_;rw[ho]
 have hslk:∀q,(toH s.heap).slot ⟨k,q⟩=(OD.lst w).slot s.heap.len k q:=fun q=>by show(s.heap.obj k).slot _ _ _=_;rw[hk]
 have hsl':∀q,(toH H').slot ⟨id,q⟩=(OD.lst root').slot H'.len id q:=fun q=>by show(H'.obj id).slot _ _ _=_;rw[hobji]
 have fn:∀j q,f j q=none->j≠k/\¬ (j=id/\PP <+: q):=fun j q h=>by
  obtain⟨e1,e2⟩:=qnk h;exact⟨e1,fun⟨x,y⟩=>e2 ⟨x,y.length_le⟩⟩
 have mo:∀j q,j≠id->j≠k->m ⟨j,q⟩=some ⟨j,q⟩:=fun j q e1 e2=>by simp only[m,q2r,if_neg e1,if_neg e2]
 have mi:∀q,¬ PP <+: q->m ⟨id,q⟩=some ⟨id,q⟩:=fun q e=>by simp only[m,q2r,if_true,if_neg e]
 have mp:∀q,m ⟨id,PP++q⟩=some ⟨k,q⟩:=fun q=>by
  simp only[m,q2r,if_true];rw[if_pos ⟨q,rfl⟩];simp
 have mk:∀q,m ⟨k,q⟩=none:=fun q=>by simp only[m,q2r,if_neg (fun e:k=id=>hik e.symm),if_true]
 have hkk:qbm f s.heap H1 H' m (fun _=>False):=⟨fun j q u h=>by
   have:u=.un:=qnj h;rw[this];simp only[toV];exact KG.un,
  fun j q h hb=>by
   obtain⟨e1,e2⟩:=fn j q h;by_cases hj:j=id
   ·subst hj;have hq:¬ PP <+: q:=fun e=>e2 ⟨rfl,e⟩;refine .inr ⟨?_,mi q hq⟩;rw[hsl',hs1];rw[hsl]at hb;simp only[OD.slot]at hb ⊢;by_cases hqp:q=p
    ·subst hqp;rw[if_pos rfl,a1];exact⟨h1.symm,h2.symm,h3.symm,by show(v.l.set r y).length=o1.n;rw[List.length_set,h4]⟩
    ·rw[if_neg (fun e=>hqp (by injection e)),hsl];simp only[OD.slot];rcases a2 q hq with⟨x1,x2⟩|⟨x,x',x1,x2,x3⟩
     ·rw[x2]at hb;exact absurd rfl hb
     ·rw[x1,x2];exact⟨rfl,x3.e,by show x'.N.sz=x.N.sz;rw[x3.N],x3.n⟩
   ·refine .inr ⟨?_,mo j q hj e1⟩;rw[hs1,if_neg (fun e=>hj (by injection e))];show qaz _ ((H'.obj j).slot H'.len j q);rw[hobj j hj e1];exact qb7 hb,
  fun j q h hb=>by
   obtain⟨e1,e2⟩:=fn j q h;by_cases hj:j=id
   ·subst hj;have hq:¬ PP <+: q:=fun e=>e2 ⟨rfl,e⟩;unfold qad.len;rw[hobji,ho];simp only[OD.len];rcases a2 q hq with⟨x1,x2⟩|⟨x,x',x1,x2,x3⟩
    ·rw[x1,x2]
    ·rw[x1,x2];simp only[x3.n]
   ·exact qad.qdn (hobj j hj e1) q⟩
 have fo:∀j,j≠id->j≠k->∀q,f j q=none:=fun j e1 e2 q=>qhq e2 (fun e=>absurd e e1);have lenP:H'.len id PP=some w.l.length:=by
  unfold qad.len;rw[hobji];simp only[OD.len];have:=atP [];rw[zht,LV.qa6]at this;rw[this]
 -- cells of the list that moves
 have cellM:∀(q:List Nat) (a:LV),w.at q=some a->∀r' c',r'<a.l.length->KG H1 (toH H') m (fun _=>False) (qbd s.heap.len k q r' c' (qam a.N (a.row r') c')) (qbd H'.len id (PP++q) r' c' (qam a.N (a.row r') c')):=fun q a ha r' c' hr'=>by
  cases hx:qam a.N (a.row r') c' with
  |ev u=>exact KG.dat (qbf _ _ _ _ hx)
  |own t e l=>
   simp only[qbd];have e1:(toH s.heap).slot ⟨k,q++[c',r']⟩=.live (LV.obj s.heap.len k (q++[c',r']) ⟨t,e,l⟩):=by
    rw[hslk];exact qcs ha hx
   have e2:(toH H').slot ⟨id,PP++q++[c',r']⟩=.live (LV.obj H'.len id (PP++q++[c',r']) ⟨t,e,l⟩):=by
    rw[hsl'];exact qcs (by rw[atP];exact ha) hx
   refine KG.qbq (o:=LV.obj s.heap.len k (q++[c',r']) ⟨t,e,l⟩) (by rw[hs1,if_neg (fun e=>hik (by injection e with e _;exact e.symm))];exact e1) e2 ?_ rfl rfl rfl rfl (by show 0+l.length<=l.length;omega)
   have:=mp (q++[c',r']);rwa [<- zib]at this
 have idlive:(toH s.heap).slot ⟨id,[]⟩≠.qae:=by rw[hsl];simp only[OD.slot,LV.qa6];intro e;cases e
 have klive:(toH s.heap).slot ⟨k,[]⟩≠.qae:=by rw[hslk];simp only[OD.slot,LV.qa6];intro e;cases e
 have kdead:∀q,(toH H').slot ⟨k,q⟩=.dead:=fun q=>by show(H'.obj k).slot _ _ _=_;rw[hobjk];rfl
 have hs1n:∀j q,(j=id->q≠p)->H1.slot ⟨j,q⟩=(toH s.heap).slot ⟨j,q⟩:=fun j q e=>by
  rw[hs1,if_neg (fun e2=>by injection e2 with e2 e3;exact e e2 e3)]
 -- cells of the lists that stay
 have cellS:∀(q:List Nat) (a a':LV),root.at q=some a->root'.at q=some a'->q.length % 2=0->¬ PP <+: q->∀r' c' (x x':Cell),¬ (q=p/\r'=r/\c'=c)->x=qam a.N (a.row r') c'->x'=qam a'.N (a'.row r') c'->x.Sim x' ->
   KG H1 (toH H') m (fun _=>False) (qbd s.heap.len id q r' c' x) (qbd H'.len id q r' c' x'):=fun q a a' ha ha' hqe hnq r' c' x x' hne hx hx' hsim=>by
  cases x with
  |ev u=>
   cases x' with
   |own t e l=>exact hsim.elim
   |ev u'=>
    have:u=u':=hsim;subst this;exact KG.dat (qbf _ _ _ _ hx.symm)
  |own t e l=>
   cases x' with
   |ev u=>exact hsim.elim
   |own t' e' l'=>
    obtain⟨rfl,rfl,hl⟩:=hsim;simp only[qbd];have np:¬ PP <+: q++[c',r']:=fun⟨z,hz⟩=>by
     have hlen:=congrArg List.length hz;simp only[zg6,zg1,zg7]at hlen;by_cases hz0:z=[]
     ·subst hz0;rw[zht]at hz;have h2:p=q/\[c,r]=[c',r']:=List.append_inj' hz rfl;have h3:=h2.2;simp only[List.cons.injEq,and_true]at h3;exact hne ⟨h2.1.symm,h3.2.symm,h3.1.symm⟩
     ·have hzl:z.length≠0:=fun e=>hz0 (zi4 e);refine hnq (List.prefix_of_prefix_length_le ⟨z,hz⟩ (List.prefix_append q [c',r']) ?_);omega
    rw[hl];have e1:(toH s.heap).slot ⟨id,q++[c',r']⟩=.live (LV.obj s.heap.len id (q++[c',r']) ⟨t,e,l⟩):=by rw[hsl];exact qcs ha hx.symm
    have e2:(toH H').slot ⟨id,q++[c',r']⟩=.live (LV.obj H'.len id (q++[c',r']) ⟨t,e,l'⟩):=by rw[hsl'];exact qcs ha' hx'.symm
    by_cases hqp:q++[c',r']=p
    ·have hv2:root.at (q++[c',r'])=some ⟨t,e,l⟩:=by rw[LV.qbv _ _ _ _ ha,LV.at_one,LV.qd8 hx.symm]
     have hvv:v=⟨t,e,l⟩:=by rw[hqp,hv]at hv2;injection hv2
     refine KG.qbq (o:=o1) (by rw[hs1,if_pos (by rw[hqp])]) e2 (mi _ np) h1.symm rfl ?_ ?_ (by show 0+l'.length<=l'.length;omega)
     ·rw[h3,hvv];rfl
     ·rw[h2,hvv];rfl
    ·exact KG.qbq (o:=LV.obj s.heap.len id (q++[c',r']) ⟨t,e,l⟩) (by rw[hs1n _ _ (fun _=>hqp)];exact e1) e2 (mi _ np) rfl rfl rfl rfl (by show 0+l'.length<=l'.length;omega)
 have gen:Gen H1 (toH H') m (fun _=>False):=by
  refine Gen.qa9 (fun j=>j=id\/j=k) hkk hf.obj (fun j hj=>?_) (fun i hi o' ho'=>?_) (fun i hi sb g' hm=>?_) (fun i j x hi h1' h2' e1 e2=>?_) (by rw[hlo];rfl) (fun i hi=>?_) (fun i hi hil hip=>?_)
  ·have e1:j≠id:=fun e=>hj (.inl e);have e2:j≠k:=fun e=>hj (.inr e);exact⟨fo j e1 e2,hobj j e1 e2,fun q=>mo j q e1 e2,fun q h=>h,fun q=>hs1n j q (fun e=>absurd e e1)⟩
  ·obtain⟨j,q⟩:=i;by_cases hj:j=id
   ·subst hj;rw[hsl']at ho';simp only[OD.slot]at ho';cases ha':root'.at q with
    |none=>rw[ha']at ho';cases ho'
    |some a'=>
     rw[ha']at ho';injection ho' with ho';subst ho';by_cases hq:PP <+: q
     ·obtain⟨q',rfl⟩:=hq;rw[atP]at ha';refine .inr ⟨⟨k,q'⟩,LV.obj s.heap.len k q' a',mp q',?_,fun h=>h,rfl,rfl,zg3 _,fun r' hr' c' _=>cellM q' a' ha' r' c' hr'⟩;rw[hs1n _ _ (fun e=>absurd e.symm hik),hslk];simp only[OD.slot,ha']
     ·by_cases hqp:q=p
      ·subst hqp;rw[a1]at ha';injection ha' with ha';subst ha';refine .inr ⟨⟨j,q⟩,o1,mi q hq,by rw[hs1,if_pos rfl],fun h=>h,h2.symm,h3.symm,by rw[h4];show(v.l.set r y).length<=_;rw[List.length_set];exact zg3 _,fun r' hr' c' hc'=>?_⟩
       have hr':r'<v.l.length:=by
        have:r'<(v.l.set r y).length:=hr';rwa [List.length_set]at this
       have hc':c'<v.N.sz:=hc';have er:(v.setRow r y).row r'=if r'=r then y else v.row r':=LV.qbx hr r';show KG _ _ _ _ _ (qbd H'.len j q r' c' (qam v.N ((v.setRow r y).row r') c'));rcases h5 r' hr' c' hc' with⟨b1,b2⟩|⟨rfl,rfl,b3⟩
       ·rw[b2];refine cellS q v (v.setRow r y) hv a1 hpe hq r' c' _ _ (fun e=>b1 ⟨e.2.1,e.2.2⟩) rfl rfl ?_;have:qam v.N ((v.setRow r y).row r') c'=qam v.N (v.row r') c':=by
         rw[er];by_cases hrr:r'=r
         ·rw[if_pos hrr,hrr];exact hy2 c' (fun e=>b1 ⟨hrr,e⟩)
         ·rw[if_neg hrr]
        show(qam v.N (v.row r') c').Sim (qam v.N ((v.setRow r y).row r') c');rw[this];exact Cell.Sim.rfl _
       ·rw[er,if_pos rfl,hy1];simp only[qbd];have e2:(toH H').slot ⟨j,PP⟩=.live (LV.obj H'.len j PP w):=by
         rw[hsl'];have:=atP [];rw[zht,LV.qa6]at this;simp only[OD.slot,this]
        have e1:H1.slot ⟨k,[]⟩=.live (LV.obj s.heap.len k [] w):=by
         rw[hs1n _ _ (fun e=>absurd e.symm hik),hslk];simp only[OD.slot,LV.qa6]
        have em:m ⟨j,PP⟩=some ⟨k,[]⟩:=by
         have:=mp [];rwa [zht]at this
        exact KG.qhy b3 (KG.qbq e1 e2 em rfl rfl rfl rfl (by show 0+w.l.length<=w.l.length;omega))
      ·rcases a2 q hq with⟨x1,x2⟩|⟨x,x',x1,x2,x3⟩
       ·rw[x1]at ha';cases ha'
       ·rw[x2]at ha';injection ha' with ha';subst ha';refine .inr ⟨⟨j,q⟩,LV.obj s.heap.len j q x,mi q hq,?_,fun h=>h,x3.e,?_,zij x3.n,fun r' hr' c' hc'=>?_⟩
        ·rw[hs1n _ _ (fun _=>hqp),hsl];simp only[OD.slot,x1]
        ·show x'.N.sz=x.N.sz;rw[x3.N]
        ·exact cellS q x x' x1 x2 (LV.qgk _ _ _ x1) hq r' c' _ _ (fun e=>hqp e.1) rfl rfl (x3.c r' c' (fun e=>hqp e.1))
   ·have hj2:j=k:=hi.resolve_left hj;subst hj2;rw[kdead]at ho';cases ho'
  ·obtain⟨j,q⟩:=i;by_cases hj:j=id
   ·subst hj;rw[hsl']at hm;simp only[OD.slot]at hm;cases ha':root'.at q<;>rw[ha']at hm<;>cases hm
   ·have hj2:j=k:=hi.resolve_left hj;subst hj2;rw[kdead]at hm;cases hm
  ·obtain⟨j1,q1⟩:=i;obtain⟨j2,q2⟩:=j;have n1:j1≠k:=fun e=>by subst e;rw[kdead]at h1';exact h1'
   have n2:j2≠k:=fun e=>by subst e;rw[kdead]at h2';exact h2'
   have hj:j1=id:=hi.resolve_right n1;subst hj;have key:∀q y,m ⟨j1,q⟩=some y->(PP <+: q/\y=⟨k,q.drop PP.length⟩)\/(¬ PP <+: q/\y=⟨j1,q⟩):=fun q y e=>by
    by_cases hq:PP <+: q
    ·obtain⟨z,rfl⟩:=hq;rw[mp]at e;injection e with e;exact .inl ⟨⟨z,rfl⟩,by rw[<- e];simp⟩
    ·rw[mi q hq]at e;injection e with e;exact .inr ⟨hq,e.symm⟩
   by_cases hj2:j2=j1
   ·subst hj2;rcases key q1 x e1 with⟨p1,x1⟩|⟨p1,x1⟩<;>rcases key q2 x e2 with⟨p2,x2⟩|⟨p2,x2⟩
    ·rw[x1]at x2;injection x2 with _ x2;obtain⟨z1,rfl⟩:=p1;obtain⟨z2,rfl⟩:=p2;simp at x2;rw[x2]
    ·rw[x1]at x2;injection x2 with x2 _;exact absurd x2.symm hik
    ·rw[x1]at x2;injection x2 with x2 _;exact absurd x2 hik
    ·rw[<- x1,<- x2]
   ·rw[mo j2 q2 hj2 n2]at e2;injection e2 with e2;rcases key q1 x e1 with⟨p1,x1⟩|⟨p1,x1⟩
    ·rw[x1]at e2;injection e2 with e2 _;exact absurd e2 n2
    ·rw[x1]at e2;injection e2 with e2 _;exact absurd e2 hj2
  ·have hi:s.heap.next<=i.k:=hi;have e1:i.k≠id:=fun e=>idlive (by
    have:=hf.next ⟨id,[]⟩ (by rw[<- e];exact hi)
    exact this)
   have e2:i.k≠k:=fun e=>klive (by
    have:=hf.next ⟨k,[]⟩ (by rw[<- e];exact hi)
    exact this)
   show(H'.obj i.k).slot _ _ _=_;rw[hobj _ e1 e2];exact qcm.2 (hf.next i hi)
  ·obtain⟨j,q⟩:=i;simp only at hip hil;subst hip;by_cases hj:j=id
   ·subst hj;have np:¬ PP <+: ([]:List Nat):=fun⟨z,hz⟩=>by
     have:=congrArg List.length hz;simp only[zg6,zg7]at this;omega
    have fnone:f j []=none:=qhq hik (fun _=>by rw[hPP];simp)
    rcases hkk.slot j [] fnone idlive with h|⟨h,h'⟩
    ·exact .inr (.inl h)
    ·exact .inr (.inr ⟨h',h⟩)
   ·have hj2:j=k:=hi.resolve_left hj;subst hj2;exact .inr (.inl (kdead []))
 refine qgs.gen m (fun _=>False) (by rw[qaw,qg2,qg2];rfl) (by rw[qcr,qaw,qcr];exact gen) (fun t=>?_)
 have hh1:(((qbc s).on H1).put d .un).heap=H1:=by rw[qcr];rfl
 have hh2:(qbc ((s.att id k (p++[c,r]) root').put d .un)).heap=toH H':=by rw[qaw,qcr];rfl
 rw[hh1,hh2,qaw];have base:KG H1 (toH H') m (fun _=>False) (toV s.heap.len (s.env t)) (toV H'.len (qa9 f (s.env t))):=qbm.keeps hkk _ (hf.env t);cases d with
 |none=>exact base
 |some d=>
  show KG _ _ _ _ ((((qbc s).on H1).put (some d) .un).env t) (((qbc (s.att id k (p++[c,r]) root')).put (some d) _).env t);simp only[St.put];cases Nat.beq t d with
  |false=>exact base
  |true=>
   show KG _ _ _ _ _ (bif Nat.blt d s.nt then toV H'.len .un else .un);cases Nat.blt d s.nt<;>exact KG.un
theorem qx9{len:Len}{k:Nat}{e:TypeId}{i j:Nat}{f:SU.D i->SU.D j}{l:List (SU.D i)}(h:qa2.upF i j=some f)(p:List Nat):(OD.lst ⟨e,.st j,l.map f⟩).slot len k p=(OD.lst ⟨e,.st i,l⟩).slot len k p/\(OD.lst ⟨e,.st j,l.map f⟩).len p=(OD.lst ⟨e,.st i,l⟩).len p:=by
 obtain⟨h1,h2,h3⟩:=qa2.zab i j f h;have hrow:∀r,(l.map f).getD r (SU.z j)=f (l.getD r (SU.z i)):=fun r=>by
  rw[<- h2];simp only[zg0,zh5];cases l[r]?<;>rfl
 have hc:∀r c,qam (.st j) (LV.row ⟨e,.st j,l.map f⟩ r) c=qam (.st i) (LV.row ⟨e,.st i,l⟩ r) c:=fun r c=>by
  show qa2.cell j ((l.map f).getD r (SU.z j)) c=qa2.cell i (l.getD r (SU.z i)) c;rw[hrow];exact h3 _ _
 match p with
 |[]=>
  simp only[OD.slot,OD.len,LV.qa6];have hn:(l.map f).length=l.length:=zha _;have hg:(fun r c=>qbd len k [] r c (qam (.st j) (LV.row ⟨e,.st j,l.map f⟩ r) c))=(fun r c=>qbd len k [] r c (qam (.st i) (LV.row ⟨e,.st i,l⟩ r) c)):=by
   funext r c;rw[hc]
  refine⟨?_,by rw[show(LV.mk e (.st j) (l.map f)).l.length=l.length from hn]⟩;show Slot.live { elem:=e,sz:=SU.sz j,ver:=0,n:=(l.map f).length,get:=fun r c=>qbd len k [] r c (qam (.st j) (LV.row ⟨e,.st j,l.map f⟩ r) c) }=Slot.live { elem:=e,sz:=SU.sz i,ver:=0,n:=l.length,get:=fun r c=>qbd len k [] r c (qam (.st i) (LV.row ⟨e,.st i,l⟩ r) c) };rw[hn,h1,hg]
 |[x]=>simp only[OD.slot,OD.len,LV.qfi,and_self]
 |c::r::q=>
  have hk:LV.kid ⟨e,.st j,l.map f⟩ c r=LV.kid ⟨e,.st i,l⟩ c r:=by
   unfold LV.kid;have:=hc r c;unfold LV.row at this;rw[this]
  simp only[OD.slot,OD.len,LV.qbu,hk,and_self]
theorem qpf{s:ESt}{k:Nat}{e:TypeId}{i j:Nat}{f:SU.D i->SU.D j}{l:List (SU.D i)}(ho:s.heap.obj k=.lst ⟨e,.st i,l⟩)(h:qa2.upF i j=some f):qbc (s.on (s.heap.set k (.lst ⟨e,.st j,l.map f⟩)))=qbc s:=by
 have hl:(s.heap.set k (.lst ⟨e,.st j,l.map f⟩)).len=s.heap.len:=by
  funext a p;unfold qad.len;by_cases ha:a=k
  ·subst ha;simp only[qad.set,zhc,cond_true,ho];exact(qx9 (len:=fun _ _=>none) (k:=0) h p).2
  ·rw[qad.qip ha]
 unfold qbc ESt.on toH;simp only[hl];congr 2;funext id;by_cases ha:id.k=k
 ·simp only[qad.set,ha,zhc,cond_true,ho];exact(qx9 h id.p).1
 ·rw[qad.qip ha]
def upTo(w:LV)(e:Ty):LV:=match w,e with
 | ⟨el,.st i,l⟩,.st j=>(match qa2.upF i j with
  |some f=>⟨el,.st j,l.map f⟩
  | none=>⟨el,.st i,l⟩)
 |w,_=>w
theorem qyx{s:ESt}{k:Nat}{w:LV}(e:Ty)(ho:s.heap.obj k=.lst w):qbc (s.on (s.heap.set k (.lst (upTo w e))))=qbc s:=by
 have same:qbc (s.on (s.heap.set k (.lst w)))=qbc s:=by
  have:s.on (s.heap.set k (.lst w))=s:=by
   obtain⟨nt,env,H⟩:=s;obtain⟨nx,lo,obj,md⟩:=H;unfold ESt.on qad.set;simp only;congr 2;funext a;by_cases ha:a=k
   ·subst ha;rw[zhc];exact ho.symm
   ·rw[qav ha];rfl
  rw[this]
 unfold upTo;split
 ·rename_i el i l j;split
  ·rename_i f hf;exact qpf ho hf
  ·exact same
 ·exact same
theorem Fair.of_eq{s s1:ESt}(h:qbc s1=qbc s)(hn:s1.heap.next=s.heap.next)(hf:Fair s):Fair s1:=by
 have hH:toH s1.heap=toH s.heap:=congrArg St.heap h;have hE:∀t,toV s1.heap.len (s1.env t)=toV s.heap.len (s.env t):=fun t=>congrFun (congrArg St.env h) t;exact⟨fun t=>by rw[hH,hE];exact hf.env t,by rw[hH];exact hf.obj,by rw[hH,hn];exact hf.next⟩
end
end
end Go.Abs
namespace Go.Abs
open Go
noncomputable section
variable {P:Program} {d:Option Tmp} {ty:TypeId} {L:List GOp} {ρ:Type}
section
variable [SU] [qa2] {Q:Exit->ESt->Prop}
def qof:EV->Option (List EV)
 |.st k v=>bif qa2.fro k then some (qc3 0 [] (.st k) v 0 0 (SU.sz k))else none
 |.agg l=>some l
 |_=>none
def shO{α ρ:Type}(x:α)(K:α->Option ρ):Option ρ:=K x
@[simp] theorem qls{α ρ:Type}(x:α)(K:α->Option ρ):shO x K=K x:=rfl
def zdc(s:ESt)(d:Option Tmp)(id:Nat)(back:LV->Option LV)(v:LV)(r:Nat)(y:v.N.D)(K:ESt->Option ρ):Option ρ:=match back ⟨v.e,v.N,v.l.set r y⟩with
 |some root'=>bif qj2 root'.N then K ((s.on (s.heap.set id (.lst root'))).put d .un)else shO root'.l fun l=>K ((s.on (s.heap.set id (.lst ⟨root'.e,root'.N,l⟩))).put d .un)
 |none=>none
def zf6(s:ESt)(d:Option Tmp)(id:Nat)(p:List Nat)(back:LV->Option LV)(v:LV)(r c:Nat)(u:EV)(K:ESt->Option ρ)(no:Option ρ):Option ρ:=match u with
 | .qa5 k []=>(match qrq v.N c with
  | some (_,e)=>(match s.heap.obj k with
   | .lst w=>bif Nat.beq id k then none else(match qtj v.N (v.l.getD r v.N.z) c (upTo w e).e (upTo w e).N (upTo w e).l with
    | some y=>(match back ⟨v.e,v.N,v.l.set r y⟩with
     |some root'=>shO root'.l fun l=>K (((s.on (s.heap.set k (.lst (upTo w e)))).att id k (p++[c,r]) ⟨root'.e,root'.N,l⟩).put d .un)
     | none=>none)
    | none=>none)
   | _=>no)
  | none=>no)
 |_=>no
def qio(s:ESt)(d:Option Tmp)(agg:Bool)(sz:Nat)(a u:EV)(K:ESt->Option ρ)(no:Option ρ):Option ρ:=match a with
 |.ptr id p r c=>match s.heap.obj id with
  |.cells e l=>match p with
   | []=>grd (Nat.blt r 1) (bif agg then(match qof u with
     |some m=>bif Nat.beq m.length sz&&Nat.ble (c+sz) l.length then K ((s.on (s.heap.set id (.cells e (qnq l c m)))).put d .un)else none
     | none=>none)
      else bif Nat.beq sz 1&&Nat.blt c l.length&&u.one then K ((s.on (s.heap.set id (.cells e (qsz l c u)))).put d .un)else none)
   |_=>none
  | .lst root=>root.qpd p fun v back=>grd (Nat.blt r v.l.length) (bif agg then(bif Nat.beq (qnm u) sz&&Nat.ble (c+sz) v.N.sz then(match qzp v.N (v.l.getD r v.N.z) c u with
      |some y=>zdc s d id back v r y K
      | none=>no)else none)
     else bif Nat.beq sz 1&&Nat.blt c v.N.sz&&u.one then(match qww v.N (v.l.getD r v.N.z) c u with
      |some y=>zdc s d id back v r y K
      | none=>zf6 s d id p back v r c u K no)else none)
  |_=>none
 |_=>none
theorem qwo{s:ESt}{y:Operand}(h0:0<qnm (s.eval y)):∃g,(qbc s).eval y=.agg (qnm (s.eval y)) g/\∀j,j<qnm (s.eval y)->Wk (g j) (qsl s.heap.len (s.eval y) j):=by
 cases he:s.eval y with
 |st i v=>
  have:=eval_eq he rfl;rw[this];exact⟨_,by simp only[toV];rfl,fun j hj=>Wk.refl _⟩
 |agg l=>
  obtain⟨g',hg,hw⟩:=q6a he;exact⟨g',hg,hw⟩
 |_=>rw[he]at h0;exact absurd h0 (zio _)
theorem qm6(H:qbe)(len:Len)(v:Value):qfq H (toV len (qdr v)):=by rw[qc7];exact V.qnd _ _
theorem qm4{s:ESt}(hf:Fair s)(x:Operand):qfq (toH s.heap) (toV s.heap.len (s.eval x)):=by
 cases x with
 |tmp t=>exact hf.env t
 |const v=>
  show qfq _ (toV _ (qs0 v));rcases qes v with⟨cs,rfl⟩|e
  ·simp only[qs0];cases ha:cs.all (·.oneCell')with
   |false=>simp only[cond_false,toV];trivial
   |true=>
    simp only[cond_true,toV,zha,zit];intro j hj;rw[qde];simp only[zg0,zh5,zh6];rw[zhp hj];exact qm6 _ _ _
  ·rw[e];exact qm6 _ _ _
 |global g=>simp only[ESt.eval,toV];trivial
 |func f=>simp only[ESt.eval,toV];intro j hj;exact absurd hj (zhf _)
theorem q4c{s:ESt}{y:Operand}{m:List EV}(hf:Fair s)(h:qof (s.eval y)=some m):m.length=qnm (s.eval y)/\(∀j,j<m.length->Wk (qsl s.heap.len (s.eval y) j) (qa3 s.heap.len m j))/\∀j,j<m.length->qfq (toH s.heap) (qa3 s.heap.len m j):=by
 cases he:s.eval y with
 |st k v=>
  rw[he]at h;simp only[qof]at h;obtain⟨hfr,h⟩:=qaf h;injection h with h;subst h;rw[qb0];have e:∀j,j<SU.sz k->qa3 s.heap.len (qc3 0 [] (.st k) v 0 0 (SU.sz k)) j=.t (SU.enc k v j):=fun j hj=>by
   rw[qds _ _ _ _ _ _ _ _ _ hj,zg9,qif (N:=.st k) hfr hj];rfl
  exact⟨rfl,fun j hj=>by rw[e j hj];exact Wk.refl _,fun j hj=>by rw[e j hj];trivial⟩
 |agg l=>
  rw[he]at h;simp only[qof]at h;injection h with h;subst h;have:=qm4 hf y;rw[he]at this;simp only[toV]at this;exact⟨rfl,fun j hj=>Wk.refl _,this⟩
 |_=>rw[he]at h;cases h
theorem qy8{s:ESt}{l:List EV}{c:Nat}{u:EV}(hl:∀j,j<l.length->qfq (toH s.heap) (qa3 s.heap.len l j))(hu:qfq (toH s.heap) (toV s.heap.len u)) :
  ∀j,j<(qsz l c u).length->qfq (toH s.heap) (qa3 s.heap.len (qsz l c u) j):=fun j hj=>by
 rw[qhi]at hj;rw[qlv _ _ _ _ _ hj];split
 ·exact hu
 ·exact hl j hj
theorem qwt{s:ESt}{l m:List EV}{c:Nat}(hl:∀j,j<l.length->qfq (toH s.heap) (qa3 s.heap.len l j))(hm:∀j,j<m.length->qfq (toH s.heap) (qa3 s.heap.len m j)) :
  ∀j,j<(qnq l c m).length->qfq (toH s.heap) (qa3 s.heap.len (qnq l c m) j):=fun j hj=>by
 rw[qlt]at hj;rw[qpi _ _ _ _ _ hj];split
 ·exact hm _ (by omega)
 ·exact hl j hj
theorem qkm.born{s:ESt}{id:Nat}{e:TypeId}{m:List EV}(hf:Fair s)(h:qkm s id e m):∀j,j<m.length->qfq (toH s.heap) (qa3 s.heap.len m j):=fun j hj=>by
 obtain⟨o,q1,q2,q3,q4,q5,q6,q7⟩:=h.slot;rw[<- q6 j hj];exact hf.obj _ _ q1 0 (by omega) j (by omega)
theorem qke[T:Tys P]{s:ESt}{t:TypeId}{x y:Operand}{id c:Nat}{e:TypeId}{m:List EV}{K:ESt->Option ρ}{res:ρ}(hK:∀s',K s'=some res->SLT P L Q s')(hf:Fair s)(hx:s.eval x=.ptr id [] 0 c)(hc:qkm s id e m)
  (h0:Nat.blt 0 (Tys.c P t).sz=true) (ha:(Tys.c P t).agg=false) (hsz:Nat.beq (Tys.c P t).sz 1=true) (hcl:Nat.blt c m.length=true) (hu:(s.eval y).one=true)
  (h:K ((s.on (s.heap.set id (.cells e (qsz m c (s.eval y))))).put d .un)=some res):SL P (⟨d,.store t x y,ty,none⟩::L) (qe9 Q) (qbc s):=by
 have:=qb6.of' h0 ha;rw[qbl hsz]at this;have hcl:=zg4 hcl;obtain⟨o,q1,q2,q3,q4,q5,q6,q7⟩:=hc.slot;have hx:=eval_eq hx rfl;simp only[toV]at hx;obtain⟨u,u1,u2,u3⟩:=qu7 hu;refine SL.qio hx q1 q2.symm (by omega) (by rw[q4];exact hcl) u1 u2 (SL.weak (qn3 (o1:=o.qz2 0 c u) hf hc (qhi _ _ _) (qy8 (hc.born hf) (qm4 hf y)) q2 q3 q4 q5 (fun j hj=>?_) d) (hK _ h).out)
 simp only[qcu.qz2,quc];rw[qlv _ _ _ _ _ hj];by_cases hjc:j=c
 ·rw[if_pos ⟨trivial,hjc⟩,if_pos hjc];exact u3
 ·rw[if_neg (fun e=>hjc e.2),if_neg hjc,q6 j hj];exact Wk.refl _
theorem qkd[T:Tys P]{s:ESt}{t:TypeId}{x y:Operand}{id c:Nat}{e:TypeId}{m l:List EV}{K:ESt->Option ρ}{res:ρ}(hK:∀s',K s'=some res->SLT P L Q s')(hf:Fair s)(hx:s.eval x=.ptr id [] 0 c)(hc:qkm s id e m)
  (h0:Nat.blt 0 (Tys.c P t).sz=true) (ha:(Tys.c P t).agg=true) (hp:qof (s.eval y)=some l) (hsz:Nat.beq l.length (Tys.c P t).sz=true) (hcl:Nat.ble (c+(Tys.c P t).sz) m.length=true)
  (h:K ((s.on (s.heap.set id (.cells e (qnq m c l)))).put d .un)=some res):SL P (⟨d,.store t x y,ty,none⟩::L) (qe9 Q) (qbc s):=by
 have:=qb6.of' h0 ha;have hsz:=qbl hsz;have hcl:=zg4 hcl;have h0':0<(Tys.c P t).sz:=zg4 h0;obtain⟨o,q1,q2,q3,q4,q5,q6,q7⟩:=hc.slot;have hx:=eval_eq hx rfl;simp only[toV]at hx;obtain⟨p1,p2,p3⟩:=q4c hf hp;obtain⟨g,hg,hw⟩:=qwo (s:=s) (y:=y) (by omega);rw[<- p1,hsz]at hg;refine SL.qy3 hx q1 q2.symm (by omega) (by rw[q4];exact hcl) hg (SL.weak (qn3 (o1:=o.put 0 c (Tys.c P t).sz g) hf hc (qlt _ _ _) (qwt (hc.born hf) p3) q2 q3 q4 q5 (fun j hj=>?_) d) (hK _ h).out)
 simp only[qcu.put,q66];rw[qpi _ _ _ _ _ hj,hsz];by_cases hjc:c<=j/\j<c+(Tys.c P t).sz
 ·rw[if_pos ⟨trivial,hjc⟩,if_pos hjc];exact(hw _ (by omega)).trans (p2 _ (by omega))
 ·rw[if_neg (fun e=>hjc e.2),if_neg hjc,q6 j hj];exact Wk.refl _
theorem qq6[T:Tys P]{s:ESt}{t:TypeId}{x y:Operand}{K:ESt->Option ρ}{no:Option ρ}{res:ρ}(hK:∀s',K s'=some res->SLT P L Q s')(h0:Nat.blt 0 (Tys.c P t).sz=true)
  (hno:Fair s->no=some res->SL P (⟨d,.store t x y,ty,none⟩::L) (qe9 Q) (qbc s))
  (h:qio s d (Tys.c P t).agg (Tys.c P t).sz (s.eval x) (s.eval y) K no=some res):SLT P (⟨d,.store t x y,ty,none⟩::L) Q s:=by
 refine⟨SL.fair fun hf=>?_⟩;unfold qio at h;split at h
 ·rename_i id p r c hx;split at h
  ·rename_i e l ho;split at h
   ·have hh:=qbs h;clear h;obtain⟨hr,h⟩:=hh;have hr:=zg4 hr;obtain rfl:r=0:=by omega
    cases ha:(Tys.c P t).agg with
    |true=>
     rw[ha]at h;simp only[cond_true]at h;split at h
     ·rename_i m hm;obtain⟨hb,h⟩:=qaf h;simp only[zgz]at hb;exact qkd hK hf hx (.cells ho) h0 ha hm hb.1 hb.2 h
     ·cases h
    |false=>
     rw[ha]at h;simp only[cond_false]at h;obtain⟨hb,h⟩:=qaf h;simp only[zgz]at hb;exact qke hK hf hx (.cells ho) h0 ha hb.1.1 hb.1.2 hb.2 h
   ·cases h
  ·rename_i root ho;obtain⟨v,back,hv,hback,g⟩:=LV.qgw _ _ _ _ h;clear h;obtain⟨hr,h⟩:=qbs g;clear g;have hr:r<v.l.length:=zg4 hr;have hat:s.heap.at id p=some v:=by simp only[qad.at,ho];exact hv
   have hs:=qb3 hat;have hx:=eval_eq hx rfl;simp only[toV]at hx;cases ha:(Tys.c P t).agg with
   |true=>
    rw[ha]at h;simp only[cond_true]at h;obtain⟨hb,h⟩:=qaf h;simp only[zgz]at hb;split at h
    ·rename_i y' hy;unfold zdc at h;split at h
     ·rename_i root' hp;have h:K ((s.on (s.heap.set id (.lst root'))).put d .un)=some res:=by cases hfr:qj2 root'.N<;>(rw[hfr]at h;exact h)
      have hp:=hback _ _ hp;have h1:=qbl hb.1;have h2:=zg4 hb.2;have h0':0<(Tys.c P t).sz:=zg4 h0;have:=qb6.of' h0 ha;obtain⟨g,hg,hw⟩:=qwo (s:=s) (y:=y) (by omega);have k:=qzo hy;rw[h1]at hg k;refine SL.qy3 hx hs rfl hr h2 hg (SL.weak (qn2 (o1:=(v.obj s.heap.len id p).put r c (Tys.c P t).sz g) (g:=fun len=>qsl len (s.eval y)) hf ho hv hr k hp rfl rfl rfl rfl (fun i hi j hj=>?_) d) (hK _ h).out);simp only[qcu.put,q66];by_cases hjc:i=r/\c<=j/\j<c+(Tys.c P t).sz
      ·exact .inr ⟨hjc.1,hjc.2,by rw[if_pos hjc];exact hw _ (by omega)⟩
      ·exact .inl ⟨hjc,by rw[if_neg hjc]⟩
     ·cases h
    ·exact hno hf h
   |false=>
    rw[ha]at h;simp only[cond_false]at h;obtain⟨hb,h⟩:=qaf h;simp only[zgz]at hb;have h1:=qbl hb.1.1;have h2:c<v.N.sz:=zg4 hb.1.2;have:=qb6.of' h0 ha;rw[h1]at this;split at h
    ·rename_i y' hy;unfold zdc at h;split at h
     ·rename_i root' hp;have h:K ((s.on (s.heap.set id (.lst root'))).put d .un)=some res:=by cases hfr:qj2 root'.N<;>(rw[hfr]at h;exact h)
      have hp:=hback _ _ hp;obtain⟨u,u1,u2,u3⟩:=qu7 hb.2;refine SL.qio hx hs rfl hr h2 u1 u2 (SL.weak (qn2 (o1:=(v.obj s.heap.len id p).qz2 r c u) (g:=fun len _=>toV len (s.eval y)) hf ho hv hr (qkv.set hy) hp rfl rfl rfl rfl (fun i hi j hj=>?_) d) (hK _ h).out);simp only[qcu.qz2,quc];by_cases hjc:i=r/\j=c
      ·exact .inr ⟨hjc.1,by omega,by rw[if_pos hjc];exact u3⟩
      ·exact .inl ⟨fun e=>hjc ⟨e.1,by omega⟩,by rw[if_neg hjc]⟩
     ·cases h
    ·unfold zf6 at h;split at h
     ·rename_i k hu;split at h
      ·rename_i te e hte;split at h
       ·rename_i w hw;cases hik:Nat.beq id k with
        |true=>rw[hik]at h;cases h
        |false=>
         rw[hik]at h;simp only[cond_false]at h;have hne:id≠k:=fun e=>by subst e;simp at hik
         split at h
         ·rename_i y' hy;split at h
          ·rename_i root' hp;have hp:=hback _ _ hp;have heq:=qyx e hw
           let s1:ESt:=s.on (s.heap.set k (.lst (upTo w e)))
           have hf1:Fair s1:=Fair.of_eq heq rfl hf;have ho1:s1.heap.obj id=.lst root:=by show(bif Nat.beq id k then _ else _)=_;rw[hik];exact ho
           have hw1:s1.heap.obj k=.lst (upTo w e):=by show(bif Nat.beq k k then _ else _)=_;rw[zhc];rfl
           have hu1:s1.eval y=.qa5 k []:=hu;have hone:(s1.eval y).one=true:=by rw[hu1];rfl
           obtain⟨u,u1,u2,u3⟩:=qu7 hone;have hatk:s1.heap.at k []=some (upTo w e):=by simp only[qad.at,hw1,LV.qa6]
           rw[hu1]at u3;simp only[toV,qad.qf1 hatk]at u3;obtain⟨y1,y2⟩:=qpt _ _ _ _ _ _ _ hy;have hat1:s1.heap.at id p=some v:=by simp only[qad.at,ho1];exact hv
           have hs1:=qb3 hat1;have hx1:(qbc s1).eval x=.ptr ⟨id,p⟩ 0 r c:=by rw[heq];exact hx
           rw[<- heq];refine SL.qio hx1 hs1 rfl hr h2 u1 u2 (SL.weak (q2s (H1:=(qbc s1).heap.set ⟨id,p⟩ ((v.obj s1.heap.len id p).qz2 r c u)) (o1:=(v.obj s1.heap.len id p).qz2 r c u) hf1 hne ho1 hw1 hv hr h2 y1 y2 hp (fun i=>?_) rfl rfl rfl rfl rfl (fun i hi j hj=>?_) d) (hK _ h).out)
           ·show(bif Id.beq i ⟨id,p⟩then _ else _)=_;exact qef _ _ _ _
           ·simp only[qcu.qz2,quc];by_cases hjc:i=r/\j=c
            ·exact .inr ⟨hjc.1,hjc.2,by rw[if_pos hjc];exact u3⟩
            ·exact .inl ⟨hjc,by rw[if_neg hjc]⟩
          ·cases h
         ·cases h
       ·exact hno hf h
      ·exact hno hf h
     ·exact hno hf h
  ·cases h
 ·cases h
def qkx(s:ESt)(d:Option Tmp)(agg:Bool)(sz:Nat)(a u:EV)(K:ESt->Option ρ)(no:Option ρ):Option ρ:=match a with
 |.ptr id [] r c=>match s.heap.obj id with
  | .lst ⟨e,N,[x]⟩=>bif qj2 N then grd (Nat.blt r 1) (bif agg then(match qof u with
     |some m=>bif Nat.beq m.length sz&&Nat.ble (c+sz) N.sz then K ((s.on (s.heap.set id (.cells e (qnq (qc3 id [] N x 0 0 N.sz) c m)))).put d .un)else none
     | none=>none)
      else bif Nat.beq sz 1&&Nat.blt c N.sz&&u.one then K ((s.on (s.heap.set id (.cells e (qsz (qc3 id [] N x 0 0 N.sz) c u)))).put d .un)else none)else no
  |_=>no
 |_=>no
theorem qlp[T:Tys P]{s:ESt}{t:TypeId}{x y:Operand}{K:ESt->Option ρ}{no:Option ρ}{res:ρ}(hK:∀s',K s'=some res->SLT P L Q s')(h0:Nat.blt 0 (Tys.c P t).sz=true)
  (hno:no=some res->SL P (⟨d,.store t x y,ty,none⟩::L) (qe9 Q) (qbc s)) (hf:Fair s)
  (h:qkx s d (Tys.c P t).agg (Tys.c P t).sz (s.eval x) (s.eval y) K no=some res):SL P (⟨d,.store t x y,ty,none⟩::L) (qe9 Q) (qbc s):=by
 unfold qkx at h;split at h
 ·rename_i id r c hx;split at h
  ·rename_i e N z ho;cases hfr:qj2 N with
   |false=>rw[hfr]at h;exact hno h
   |true=>
    rw[hfr]at h;simp only[cond_true]at h;have hh:=qbs h;clear h;obtain⟨hr,h⟩:=hh;have hr:=zg4 hr;obtain rfl:r=0:=by omega
    have hc:qkm s id e (qc3 id [] N z 0 0 N.sz):=.box ho hfr rfl;cases ha:(Tys.c P t).agg with
    |true=>
     rw[ha]at h;simp only[cond_true]at h;split at h
     ·rename_i m hm;obtain⟨hb,h⟩:=qaf h;simp only[zgz]at hb;exact qkd hK hf hx hc h0 ha hm hb.1 (by rw[qb0];exact hb.2) h
     ·cases h
    |false=>
     rw[ha]at h;simp only[cond_false]at h;obtain⟨hb,h⟩:=qaf h;simp only[zgz]at hb;exact qke hK hf hx hc h0 ha hb.1.1 (by rw[qb0];exact hb.1.2) hb.2 h
  ·exact hno h
 ·exact hno h
def qy2(P:Program)[Tys P](s:ESt)(d:Option Tmp)(t:TypeId)(x y:Operand)(K:ESt->Option ρ):Option ρ:=
 bif Nat.blt 0 (Tys.c P t).sz then qio s d (Tys.c P t).agg (Tys.c P t).sz (s.eval x) (s.eval y) K
  (qkx s d (Tys.c P t).agg (Tys.c P t).sz (s.eval x) (s.eval y) K
   (qh0 s (fun s'=>qio s' d (Tys.c P t).agg (Tys.c P t).sz (s'.eval x) (s'.eval y) K none) (qpr (s.eval y))))else none
theorem qy1[T:Tys P]{s:ESt}{t:TypeId}{x y:Operand}{K:ESt->Option ρ}{res:ρ}(hK:∀s',K s'=some res->SLT P L Q s')(h:qy2 P s d t x y K=some res):SLT P (⟨d,.store t x y,ty,none⟩::L) Q s:=by
 unfold qy2 at h;obtain⟨h0,h⟩:=qaf h;refine qq6 hK h0 (fun hf h=>?_) h;refine qlp hK h0 (fun h=>?_) hf h;obtain⟨s',w,h⟩:=qdk _ _ h;exact SL.weak w (qq6 (no:=none) hK h0 (fun _ h=>by cases h) h).out
end
end
end Go.Abs
namespace Go.Abs
open Go
variable {P:Program} {d:Option Tmp} {ty:TypeId} {L:List GOp}
def qit(H:qbe):qbe:={ H with slot:=fun i=>if i.p=[]then H.slot i else .qae }
def qe6(w:World)(H:qbe)(M:Id->Option Nat)(F:Nat->Prop):Env:=⟨w,qsy H M,qit H,M,F⟩
theorem ql0{H:qbe}{i:Id}(h:i.p=[]):(qit H).slot i=H.slot i:=if_pos h
theorem qrj{H:qbe}{i:Id}(h:i.p≠[]):(qit H).slot i=.qae:=if_neg h
structure Part(Hc Hl:qbe)(m:Id->Option Id):Prop where
 next:Nx Hl
 lo:Hl.lo=Hl.next
 obj:∀i o',Hl.slot i=.live o'->(m i=none/\o'.n=0)\/∃x o,m i=some x/\Hc.slot x=.live o/\o'.ver=o.ver/\o'.elem=o.elem/\o'.sz=o.sz/\o'.n=o.n/\∀r,r<o'.n->∀c,c<o'.sz->KG Hc Hl m (fun _=>False) (o.get r c) (o'.get r c)
 mp:∀i s g',Hl.slot i=.mp s g'->∃x g,m i=some x/\Hc.slot x=.mp s g/\∀k,(g k=none/\g' k=none)\/∃u u',g k=some u/\g' k=some u'/\KG Hc Hl m (fun _=>False) u u'
 inj:∀i j x,(Hl.slot i).is->(Hl.slot j).is->m i=some x->m j=some x->i=j
theorem qkb{H:qbe}{M:Id->Option Nat}{F:Nat->Prop}:FZ H M (fun _=>False) F=F:=by
 funext b;apply propext
 constructor
 ·rintro(h|⟨i,hi,_⟩)
  ·exact h
  ·exact hi.elim
 ·exact .inl
theorem Part.rel{E:Env}{M:Id->Option Nat}{F:Nat->Prop}{Hc Hl:qbe}{m:Id->Option Id}{w:World}(r:qc4 E M F Hc w)(k:Part Hc Hl m):qc4 (qe6 w Hl (mι m M) F) (mι m M) F Hl w:=by
 have is:∀id b,(Hl.slot id).is->mι m M id=some b->∃x,m id=some x/\M x=some b/\(Hc.slot x).is:=fun id b h hb=>by
  obtain⟨x,hx,hxb⟩:=qpx hb;cases hs:Hl.slot id with
  |live o'=>
   rcases k.obj id o' hs with⟨e,_⟩|⟨y,o,hy,ho,_⟩
   ·rw[e]at hx;cases hx
   ·rw[hy]at hx;injection hx with hx;subst hx;exact⟨y,hy,hxb,by rw[ho];trivial⟩
  |mp s g=>obtain⟨y,g',hy,ho,_⟩:=k.mp id s g hs;rw[hy]at hx;injection hx with hx;subst hx;exact⟨y,hy,hxb,by rw[ho];trivial⟩
  |qae=>rw[hs]at h;exact h.elim
  |dead=>rw[hs]at h;exact h.elim
 refine⟨rfl,rfl,rfl,zg3 _,fun _ _ _=>rfl,fun id o' h=>?_,fun id s g h=>?_,fun i j b h h' hi hj=>?_,
  fun i b h hi=>?_,fun i b h hi=>.inl ⟨i,h,hi⟩,fun i b h hi=>?_,r.qno,fun b hb=>.inl hb,k.next,?_,fun i hi=>?_⟩
 ·rcases k.obj id o' h with⟨e1,e2⟩|⟨x,o,hm,ho,hv,he,hs,hn,hg⟩
  ·refine⟨by rw[e2];exact Nat.zero_le _,?_⟩
   rw[qve e1];exact e2
  obtain⟨h1,h2⟩:=r.obj _ o ho;refine⟨by rw[hn];exact h1,?_⟩
  rw[qca hm];cases hk:M x with
  |none=>rw[hk]at h2;have h2:o.n=0:=h2;show o'.n=0;omega
  |some b=>
   rw[hk]at h2;obtain⟨cur,g1,g2,g3⟩:=h2;dsimp only;rw[he,hs];refine⟨cur,g1,by rw[hn];exact g2,fun i hi j hj=>?_⟩
   obtain⟨c,a,b,d⟩:=g3 i (by omega) j hj;have:=hg i hi j (by omega) _ _ _ _ _ r d;rw[qkb]at this;exact⟨c,a,b,this⟩
 ·obtain⟨x,g',hm,hg,hk⟩:=k.mp id s g h;obtain⟨b,es,clock,g1,g2,g3,g4⟩:=r.qxx _ s g' hg;refine⟨b,es,clock,(qca hm).trans g1,g2,g3,fun key hkey=>?_⟩;have:=g4 key hkey;rcases hk key with⟨e1,e2⟩|⟨u,u',e1,e2,e3⟩
  ·rw[e1]at this;rw[e2];exact this
  ·rw[e1]at this;rw[e2];obtain⟨n,e,a,b,c⟩:=this;have:=e3 _ _ _ _ _ r c;rw[qkb]at this;exact⟨n,e,a,b,this⟩
 ·obtain⟨x,hx1,hx2,hx3⟩:=is i b h hi;obtain⟨y,hy1,hy2,hy3⟩:=is j b h' hj;obtain rfl:=r.inj x y b hx3 hy3 hx2 hy2;exact k.inj i j x h h' hx1 hy1
 ·obtain⟨x,hx1,hx2,hx3⟩:=is i b h hi;exact r.qto _ b hx3 hx2
 ·obtain⟨x,hx1,hx2,hx3⟩:=is i b h hi;exact r.lt _ b hx3 hx2
 ·refine Ext.of (fun _ h=>h) (fun _ _=>rfl) fun i=>?_;unfold qf5;show match(qit Hl).slot i with|_=>_
  by_cases hp:i.p=[]
  ·rw[show(qe6 w Hl (mι m M) F).H0.slot i=Hl.slot i from ql0 hp];cases hs:Hl.slot i with
   |qae=>trivial
   |dead=>rfl
   |mp s g=>exact .inr ⟨⟨s,g,rfl⟩,rfl⟩
   |live o=>exact .inr ⟨o,rfl,zg3 _,fun _=>⟨rfl,rfl,zg3 _,rfl,fun b cur hb hc=>⟨cur,hc,rfl⟩⟩⟩
  ·rw[show(qe6 w Hl (mι m M) F).H0.slot i=.qae from qrj hp];trivial
 ·show(qit Hl).slot i=.qae;by_cases hp:i.p=[]
  ·rw[ql0 hp];rcases hi with hi|hi
   ·exact k.next i (by rw[<- k.lo];exact hi)
   ·exact absurd hp hi
  ·exact qrj hp
structure zdu(Hc Hl Hl' Hc':qbe)(m n:Id->Option Id):Prop where
 lo:Hc'.lo=Hc.lo
 next:Nx Hc'
 out:∀i,n i=none->(Hc'.slot i).is->(∀x,(Hl.slot x).is->m x≠some i)/\qaz (Hc.slot i) (Hc'.slot i)
 zgq:∀i j x,n i=some x->n j=some x->i=j
 low:∀i:Id,i.k<Hc.lo->i.p=[]->Hc.slot i=.qae\/Hc'.slot i=.dead\/(n i=none/\qaz (Hc.slot i) (Hc'.slot i)) \/
  ∃x,n i=some x/\m x=some i/\x.p=[]/\qaz (Hc.slot i) (Hl.slot x)/\qaz (Hl'.slot x) (Hc'.slot i)
def ι4(n:Id->Option Id)(ιc ι3:Id->Option Nat):Id->Option Nat:=fun i=>match n i with
 |some x=>ι3 x
 |none=>ιc i
theorem qf6{n:Id->Option Id}{ιc ι3:Id->Option Nat}{i x:Id}(h:n i=some x):ι4 n ιc ι3 i=ι3 x:=by unfold ι4;rw[h]
theorem qfa{n:Id->Option Id}{ιc ι3:Id->Option Nat}{i:Id}(h:n i=none):ι4 n ιc ι3 i=ιc i:=by unfold ι4;rw[h]
theorem qvw{E:Env}{ιc:Id->Option Nat}{Fc:Nat->Prop}{Hc Hl Hl' Hc':qbe}{m n:Id->Option Id}{w w':World}{ι3:Id->Option Nat}{F3:Nat->Prop}(r:qc4 E ιc Fc Hc w)(k:Part Hc Hl m)
  (r3:qc4 (qe6 w Hl (mι m ιc) Fc) ι3 F3 Hl' w') {i:Id} (hn:n i=none) (hl:qaz (Hc.slot i) (Hc'.slot i)) (hm:(Hc'.slot i).is->∀x,(Hl.slot x).is->m x≠some i) :
  (∀ver rr c v,qay Hc ιc Fc w (.ptr i ver rr c) v->qay Hc' (ι4 n ιc ι3) F3 w' (.ptr i ver rr c) v)/\(∀ver rr c v,qay Hc ιc Fc w (.qbq i ver rr c) v->qay Hc' (ι4 n ιc ι3) F3 w' (.qbq i ver rr c) v)/\∀v,qay Hc ιc Fc w (.qcd i) v->qay Hc' (ι4 n ιc ι3) F3 w' (.qcd i) v:=by
 have blk:∀b,(Hc'.slot i).is->(Hc.slot i).is->ιc i=some b->w'.heap[b]?=w.heap[b]?:=fun b hi' hi hb=>by
  refine r3.kept b (r.lt i b hi hb) ?_
  rintro⟨x,hx1,hx2⟩
  obtain⟨y,hy1,hy2⟩:=qpx hx2;have hy3:(Hc.slot y).is:=by
   cases hs:Hl.slot x with
   |live o'=>
    rcases k.obj x o' hs with⟨e,_⟩|⟨z,o,hz,ho,_⟩
    ·rw[e]at hy1;cases hy1
    ·rw[hy1]at hz;injection hz with hz;subst hz;rw[ho];trivial
   |mp s g=>obtain⟨z,g',hz,ho,_⟩:=k.mp x s g hs;rw[hy1]at hz;injection hz with hz;subst hz;rw[ho];trivial
   |qae=>rw[hs]at hx1;exact hx1.elim
   |dead=>rw[hs]at hx1;exact hx1.elim
  have:=r.inj i y b hi hy3 hb hy2;subst this;exact hm hi' x hx1 hy1
 refine⟨?_,?_,?_⟩
 ·rintro ver rr c v ⟨h0,h1⟩
  refine⟨h0,?_⟩;cases hs':Hc'.slot i with
  |dead=>trivial
  |mp s g=>trivial
  |qae=>rw[hs']at hl;cases hs:Hc.slot i<;>rw[hs]at hl<;>exact hl.elim
  |live o'=>
   rw[hs']at hl;cases hs:Hc.slot i with
   |live o=>
    rw[hs]at hl h1;obtain⟨a,b,c,d⟩:=hl;show ver<=o'.ver/\_;rw[qfa hn,a,c];exact h1
   |qae=>rw[hs]at hl;exact hl.elim
   |dead=>rw[hs]at hl;exact hl.elim
   |mp _ _=>rw[hs]at hl;exact hl.elim
 ·rintro ver rr c v ⟨h0,h1⟩
  refine⟨h0,?_⟩;cases hs':Hc'.slot i with
  |dead=>trivial
  |mp s g=>trivial
  |qae=>rw[hs']at hl;cases hs:Hc.slot i<;>rw[hs]at hl<;>exact hl.elim
  |live o'=>
   rw[hs']at hl;cases hs:Hc.slot i with
   |live o=>
    rw[hs]at hl h1;obtain⟨a,b,c,d⟩:=hl;show ver<=o'.ver/\_;rw[qfa hn,a,b,c,d];refine⟨h1.1,fun hv=>?_⟩;obtain⟨q1,A,cap,q2,q3,q4⟩:=h1.2 hv;refine⟨q1,A,cap,q2,q3,fun hc=>?_⟩;obtain⟨b,cur,p1,p2,p3,p4⟩:=q4 hc;exact⟨b,cur,p1,p2,by rw[blk b (by rw[hs'];trivial) (by rw[hs];trivial) p1];exact p3,p4⟩
   |qae=>rw[hs]at hl;exact hl.elim
   |dead=>rw[hs]at hl;exact hl.elim
   |mp _ _=>rw[hs]at hl;exact hl.elim
 ·rintro v ⟨h0,h1⟩
  refine⟨h0,?_⟩;cases hs':Hc'.slot i with
  |dead=>trivial
  |live o'=>trivial
  |qae=>rw[hs']at hl;cases hs:Hc.slot i<;>rw[hs]at hl<;>exact hl.elim
  |mp s g=>
   rw[hs']at hl;cases hs:Hc.slot i with
   |mp _ _=>rw[hs]at h1;show ∃b,ι4 n ιc ι3 i=some b/\_;rw[qfa hn];exact h1
   |qae=>rw[hs]at hl;exact hl.elim
   |dead=>rw[hs]at hl;exact hl.elim
   |live _=>rw[hs]at hl;exact hl.elim
theorem q0v{E:Env}{ιc:Id->Option Nat}{Fc:Nat->Prop}{Hc Hl Hl' Hc':qbe}{m n:Id->Option Id}{w w':World}{ι3:Id->Option Nat}{F3:Nat->Prop}(r:qc4 E ιc Fc Hc w)
  (r3:qc4 (qe6 w Hl (mι m ιc) Fc) ι3 F3 Hl' w') {i x:Id} (hn:n i=some x) (hm:m x=some i) (hp:x.p=[]) (h1:qaz (Hc.slot i) (Hl.slot x)) (h2:qaz (Hl'.slot x) (Hc'.slot i)) :
  (∀ver rr c v,qay Hc ιc Fc w (.ptr i ver rr c) v->qay Hc' (ι4 n ιc ι3) F3 w' (.ptr i ver rr c) v)/\(∀ver rr c v,qay Hc ιc Fc w (.qbq i ver rr c) v->qay Hc' (ι4 n ιc ι3) F3 w' (.qbq i ver rr c) v)/\∀v,qay Hc ιc Fc w (.qcd i) v->qay Hc' (ι4 n ιc ι3) F3 w' (.qcd i) v:=by
 have hin:∀u u',(∀v,qay Hc ιc Fc w u v->qay (qit Hl) (mι m ιc) Fc w u' v)->∀v,qay Hc ιc Fc w u v->qay Hl' ι3 F3 w' u' v:=fun u u' h v hv=>r3.ext u' v (h v hv);have hroot:(qit Hl).slot x=Hl.slot x:=ql0 hp;refine⟨fun ver rr c v hv=>?_,fun ver rr c v hv=>?_,fun v hv=>?_⟩
 ·have:=hin (.ptr i ver rr c) (.ptr x ver rr c) (fun v ⟨a,b⟩=>⟨a,by
   rw[hroot];cases hs:Hl.slot x with
   |dead=>trivial
   |mp _ _=>trivial
   |qae=>rw[hs]at h1;cases hs':Hc.slot i<;>rw[hs']at h1<;>exact h1.elim
   |live o'=>
    rw[hs]at h1;cases hs':Hc.slot i with
    |live o=>
     rw[hs']at h1 b;obtain⟨q1,q2,q3,q4⟩:=h1;show ver<=o'.ver/\_;rw[qca hm,q1,q3];exact b
    |qae=>rw[hs']at h1;exact h1.elim
    |dead=>rw[hs']at h1;exact h1.elim
    | mp _ _=>rw[hs']at h1;exact h1.elim⟩) v hv
  obtain⟨a,b⟩:=this;refine⟨a,?_⟩;cases hs:Hc'.slot i with
  |dead=>trivial
  |mp _ _=>trivial
  |qae=>rw[hs]at h2;cases hs':Hl'.slot x<;>rw[hs']at h2<;>exact h2.elim
  |live o'=>
   rw[hs]at h2;cases hs':Hl'.slot x with
   |live o=>
    rw[hs']at h2 b;obtain⟨q1,q2,q3,q4⟩:=h2;show ver<=o'.ver/\_;rw[qf6 hn,q1,q3];exact b
   |qae=>rw[hs']at h2;exact h2.elim
   |dead=>rw[hs']at h2;exact h2.elim
   |mp _ _=>rw[hs']at h2;exact h2.elim
 ·have:=hin (.qbq i ver rr c) (.qbq x ver rr c) (fun v ⟨a,b⟩=>⟨a,by
   rw[hroot];cases hs:Hl.slot x with
   |dead=>trivial
   |mp _ _=>trivial
   |qae=>rw[hs]at h1;cases hs':Hc.slot i<;>rw[hs']at h1<;>exact h1.elim
   |live o'=>
    rw[hs]at h1;cases hs':Hc.slot i with
    |live o=>
     rw[hs']at h1 b;obtain⟨q1,q2,q3,q4⟩:=h1;show ver<=o'.ver/\_;rw[qca hm,q1,q2,q3,q4];exact b
    |qae=>rw[hs']at h1;exact h1.elim
    |dead=>rw[hs']at h1;exact h1.elim
    | mp _ _=>rw[hs']at h1;exact h1.elim⟩) v hv
  obtain⟨a,b⟩:=this;refine⟨a,?_⟩;cases hs:Hc'.slot i with
  |dead=>trivial
  |mp _ _=>trivial
  |qae=>rw[hs]at h2;cases hs':Hl'.slot x<;>rw[hs']at h2<;>exact h2.elim
  |live o'=>
   rw[hs]at h2;cases hs':Hl'.slot x with
   |live o=>
    rw[hs']at h2 b;obtain⟨q1,q2,q3,q4⟩:=h2;show ver<=o'.ver/\_;rw[qf6 hn,q1,q2,q3,q4];exact b
   |qae=>rw[hs']at h2;exact h2.elim
   |dead=>rw[hs']at h2;exact h2.elim
   |mp _ _=>rw[hs']at h2;exact h2.elim
 ·have:=hin (.qcd i) (.qcd x) (fun v ⟨a,b⟩=>⟨a,by
   rw[hroot];cases hs:Hl.slot x with
   |dead=>trivial
   |live _=>trivial
   |qae=>rw[hs]at h1;cases hs':Hc.slot i<;>rw[hs']at h1<;>exact h1.elim
   |mp _ _=>
    rw[hs]at h1;cases hs':Hc.slot i with
    |mp _ _=>rw[hs']at b;show ∃b,mι m ιc x=some b/\_;rw[qca hm];exact b
    |qae=>rw[hs']at h1;exact h1.elim
    |dead=>rw[hs']at h1;exact h1.elim
    | live _=>rw[hs']at h1;exact h1.elim⟩) v hv
  obtain⟨a,b⟩:=this;refine⟨a,?_⟩;cases hs:Hc'.slot i with
  |dead=>trivial
  |live _=>trivial
  |qae=>rw[hs]at h2;cases hs':Hl'.slot x<;>rw[hs']at h2<;>exact h2.elim
  |mp _ _=>
   rw[hs]at h2;cases hs':Hl'.slot x with
   |mp _ _=>rw[hs']at b;show ∃b,ι4 n ιc ι3 i=some b/\_;rw[qf6 hn];exact b
   |qae=>rw[hs']at h2;exact h2.elim
   |dead=>rw[hs']at h2;exact h2.elim
   |live _=>rw[hs']at h2;exact h2.elim
theorem q6u{ιc:Id->Option Nat}{Fc:Nat->Prop}{Hc Hl Hl' Hc':qbe}{m n:Id->Option Id}{w w':World}{ι3:Id->Option Nat}{F3:Nat->Prop}(r3:qc4 (qe6 w Hl (mι m ιc) Fc) ι3 F3 Hl' w'){u:V}
  (h:∀H M H' ι' F w v,qay H M F w u v->qay H' ι' F w u v):∀v,qay Hc ιc Fc w u v->qay Hc' (ι4 n ιc ι3) F3 w' u v:=fun v hv=>h _ _ _ _ _ _ _ (r3.ext u v (h _ _ (qit Hl) (mι m ιc) _ _ _ hv))
theorem zdu.rel{E:Env}{ιc:Id->Option Nat}{Fc:Nat->Prop}{Hc Hl Hl' Hc':qbe}{m n:Id->Option Id}{w w':World}{ι3:Id->Option Nat}{F3:Nat->Prop}(r:qc4 E ιc Fc Hc w)(k:Part Hc Hl m)
  (r3:qc4 (qe6 w Hl (mι m ιc) Fc) ι3 F3 Hl' w') (b:zdu Hc Hl Hl' Hc' m n)
  (hout:∀i o',n i=none->Hc'.slot i=.live o'->∃o,Hc.slot i=.live o/\∀r,r<o'.n->∀c,c<o'.sz->∀v,qay Hc ιc Fc w (o.get r c) v->qay Hc' (ι4 n ιc ι3) F3 w' (o'.get r c) v)
  (hin:∀i x o',n i=some x->Hc'.slot i=.live o'->∃o,Hl'.slot x=.live o/\o'.elem=o.elem/\o'.sz=o.sz/\o'.n=o.n/\∀r,r<o'.n->∀c,c<o'.sz->∀v,qay Hl' ι3 F3 w' (o.get r c) v->qay Hc' (ι4 n ιc ι3) F3 w' (o'.get r c) v)
  (moutp:∀i s g',n i=none->Hc'.slot i=.mp s g'->∃g,Hc.slot i=.mp s g/\∀k,(g k=none/\g' k=none)\/∃u u',g k=some u/\g' k=some u'/\∀v,qay Hc ιc Fc w u v->qay Hc' (ι4 n ιc ι3) F3 w' u' v)
  (minp:∀i x s g',n i=some x->Hc'.slot i=.mp s g'->∃g,Hl'.slot x=.mp s g/\∀k,(g k=none/\g' k=none)\/∃u u',g k=some u/\g' k=some u'/\∀v,qay Hl' ι3 F3 w' u v->qay Hc' (ι4 n ιc ι3) F3 w' u' v) :
  qc4 E (ι4 n ιc ι3) F3 Hc' w':=by
 have W0:∀b,qsy Hl (mι m ιc) b->∃x y,(Hl.slot x).is/\m x=some y/\(Hc.slot y).is/\ιc y=some b:=by
  rintro b ⟨x,hx1,hx2⟩
  obtain⟨y,hy1,hy2⟩:=qpx hx2;refine⟨x,y,hx1,hy1,?_,hy2⟩;cases hs:Hl.slot x with
  |live o'=>
   rcases k.obj x o' hs with⟨e,_⟩|⟨z,o,hz,ho,_⟩
   ·rw[e]at hy1;cases hy1
   ·rw[hy1]at hz;injection hz with hz;subst hz;rw[ho];trivial
  |mp s g=>obtain⟨z,g',hz,ho,_⟩:=k.mp x s g hs;rw[hy1]at hz;injection hz with hz;subst hz;rw[ho];trivial
  |qae=>rw[hs]at hx1;exact hx1.elim
  |dead=>rw[hs]at hx1;exact hx1.elim
 -- an object's block: of the callee, or an old one that the callee did not get
 have kind:∀i bl,(Hc'.slot i).is->ι4 n ιc ι3 i=some bl->(∃x,n i=some x/\(Hl'.slot x).is/\ι3 x=some bl)\/(n i=none/\(Hc.slot i).is/\ιc i=some bl/\¬ qsy Hl (mι m ιc) bl):=fun i bl h hb=>by
  cases hn:n i with
  |some x=>
   rw[qf6 hn]at hb;refine .inl ⟨x,rfl,?_,hb⟩;cases hs:Hc'.slot i with
   |live o'=>obtain⟨o,ho,_⟩:=hin i x o' hn hs;rw[ho];trivial
   |mp s g=>obtain⟨g',ho,_⟩:=minp i x s g hn hs;rw[ho];trivial
   |qae=>rw[hs]at h;exact h.elim
   |dead=>rw[hs]at h;exact h.elim
  |none=>
   rw[qfa hn]at hb;have hi:(Hc.slot i).is:=by
    cases hs:Hc'.slot i with
    |live o'=>obtain⟨o,ho,_⟩:=hout i o' hn hs;rw[ho];trivial
    |mp s g=>obtain⟨g',ho,_⟩:=moutp i s g hn hs;rw[ho];trivial
    |qae=>rw[hs]at h;exact h.elim
    |dead=>rw[hs]at h;exact h.elim
   refine .inr ⟨rfl,hi,hb,fun hW=>?_⟩;obtain⟨x,y,q1,q2,q3,q4⟩:=W0 bl hW;have:=r.inj i y bl hi q3 hb q4;subst this;exact(b.out i hn h).1 x q1 q2
 refine⟨r3.os.trans r.os,r3.tape.trans r.tape,r3.output.trans r.output,zhy r.size r3.size,fun bl hb hW=>?_,fun i o' h=>?_,fun i s g h=>?_,fun i j bl h h' hi hj=>?_,
  fun i bl h hi hF=>?_,fun i bl h hi=>?_,fun i bl h hi=>?_,r3.qno,fun bl hF=>?_,b.next,?_,by rw[b.lo];exact r.lo⟩
 ·rw[r3.kept bl (zid hb r.size) (fun hx=>by
   obtain⟨x,y,q1,q2,q3,q4⟩:=W0 bl hx;rcases r.own y bl q3 q4 with h|h
   ·exact hW h
   ·omega)]
  exact r.kept bl hb hW
 ·cases hn:n i with
  |some x=>
   obtain⟨o,ho,he,hs,hnn,hg⟩:=hin i x o' hn h;obtain⟨h1,h2⟩:=r3.obj x o ho;refine⟨by rw[hnn];exact h1,?_⟩
   rw[qf6 hn];cases hk:ι3 x with
   |none=>rw[hk]at h2;have h2:o.n=0:=h2;show o'.n=0;omega
   |some bl=>
    rw[hk]at h2;obtain⟨cur,g1,g2,g3⟩:=h2;dsimp only;rw[he,hs];refine⟨cur,g1,by rw[hnn];exact g2,fun i hi j hj=>?_⟩
    obtain⟨c,a,b,d⟩:=g3 i (by omega) j hj;exact⟨c,a,b,hg i hi j (by omega) _ d⟩
  |none=>
   obtain⟨o,ho,hg⟩:=hout i o' hn h;have hl:=(b.out i hn (by rw[h];trivial)).2
   rw[ho,h]at hl;obtain⟨q1,q2,q3,q4⟩:=hl;obtain⟨h1,h2⟩:=r.obj i o ho;refine⟨by rw[q4];exact h1,?_⟩
   rw[qfa hn];cases hk:ιc i with
   |none=>rw[hk]at h2;have h2:o.n=0:=h2;show o'.n=0;omega
   |some bl=>
    rw[hk]at h2;obtain⟨cur,g1,g2,g3⟩:=h2;dsimp only;rw[q2,q3];have hb:w'.heap[bl]?=w.heap[bl]?:=by
     rcases kind i bl (by rw[h];trivial) (by rw[qfa hn];exact hk)with⟨x,e,_⟩|⟨_,a,b,c⟩
     ·rw[hn]at e;cases e
     ·exact r3.kept bl (r.lt i bl a b) c
    refine⟨cur,by rw[hb];exact g1,by rw[q4];exact g2,fun x hx j hj=>?_⟩
    obtain⟨c,a,b,d⟩:=g3 x (by omega) j hj;exact⟨c,a,b,hg x hx j (by omega) _ d⟩
 ·cases hn:n i with
  |some x=>
   obtain⟨g',hg,hk⟩:=minp i x s g hn h;obtain⟨bl,es,clock,g1,g2,g3,g4⟩:=r3.qxx _ s g' hg;refine⟨bl,es,clock,(qf6 hn).trans g1,g2,g3,fun key hkey=>?_⟩;have:=g4 key hkey;rcases hk key with⟨e1,e2⟩|⟨u,u',e1,e2,e3⟩
   ·rw[e1]at this;rw[e2];exact this
   ·rw[e1]at this;rw[e2];obtain⟨n,e,a,b,c⟩:=this;exact⟨n,e,a,b,e3 _ c⟩
  |none=>
   obtain⟨g',hg,hk⟩:=moutp i s g hn h;obtain⟨bl,es,clock,g1,g2,g3,g4⟩:=r.qxx _ s g' hg;have hb:w'.heap[bl]?=w.heap[bl]?:=by
    rcases kind i bl (by rw[h];trivial) (by rw[qfa hn];exact g1)with⟨x,e,_⟩|⟨_,a,b,c⟩
    ·rw[hn]at e;cases e
    ·exact r3.kept bl (r.lt i bl a b) c
   refine⟨bl,es,clock,(qfa hn).trans g1,by rw[hb];exact g2,g3,fun key hkey=>?_⟩
   have:=g4 key hkey;rcases hk key with⟨e1,e2⟩|⟨u,u',e1,e2,e3⟩
   ·rw[e1]at this;rw[e2];exact this
   ·rw[e1]at this;rw[e2];obtain⟨n,e,a,b,c⟩:=this;exact⟨n,e,a,b,e3 _ c⟩
 ·rcases kind i bl h hi with⟨x,e1,e2,e3⟩|⟨e1,e2,e3,e4⟩
  ·rcases kind j bl h' hj with⟨y,f1,f2,f3⟩|⟨f1,f2,f3,f4⟩
   ·have:=r3.inj x y bl e2 f2 e3 f3;subst this;exact b.zgq i j x e1 f1
   ·rcases r3.own x bl e2 e3 with hw|hw
    ·exact absurd hw f4
    ·have:=r.lt j bl f2 f3;have hw:w.heap.size<=bl:=hw;omega
  ·rcases kind j bl h' hj with⟨y,f1,f2,f3⟩|⟨f1,f2,f3,f4⟩
   ·rcases r3.own y bl f2 f3 with hw|hw
    ·exact absurd hw e4
    ·have:=r.lt i bl e2 e3;have hw:w.heap.size<=bl:=hw;omega
   ·exact r.inj i j bl e2 f2 e3 f3
 ·rcases kind i bl h hi with⟨x,e1,e2,e3⟩|⟨e1,e2,e3,e4⟩
  ·exact r3.qto x bl e2 e3 hF
  ·rcases r3.qxc bl hF with hx|hx|hx
   ·exact r.qto i bl e2 e3 hx
   ·exact e4 hx
   ·have:=r.lt i bl e2 e3;have hx:w.heap.size<=bl:=hx;omega
 ·rcases kind i bl h hi with⟨x,e1,e2,e3⟩|⟨e1,e2,e3,e4⟩
  ·rcases r3.own x bl e2 e3 with hw|hw
   ·obtain⟨x,y,q1,q2,q3,q4⟩:=W0 bl hw;exact r.own y bl q3 q4
   ·exact .inr (zhy r.size hw)
  ·exact r.own i bl e2 e3
 ·rcases kind i bl h hi with⟨x,e1,e2,e3⟩|⟨e1,e2,e3,e4⟩
  ·exact r3.lt x bl e2 e3
  ·exact zid (r.lt i bl e2 e3) r3.size
 ·rcases r3.qxc bl hF with hx|hx|hx
  ·exact r.qxc bl hx
  ·obtain⟨x,y,q1,q2,q3,q4⟩:=W0 bl hx;rcases r.own y bl q3 q4 with h|h
   ·exact .inr (.inl h)
   ·exact .inr (.inr h)
  ·exact .inr (.inr (zhy r.size hx))
 ·-- what was related outside
  have low:∀id,E.H0.slot id≠.qae->id.k<Hc.lo/\id.p=[]:=fun id h=>
   ⟨Nat.lt_of_not_le fun hle=>h (r.lo id (.inl hle)),Classical.byContradiction fun hp=>h (r.lo id (.inr hp))⟩
  have leaf:∀id,E.H0.slot id≠.qae->Hc.slot id≠.qae->(∀ver rr c v,qay Hc ιc Fc w (.ptr id ver rr c) v->qay Hc' (ι4 n ιc ι3) F3 w' (.ptr id ver rr c) v)/\(∀ver rr c v,qay Hc ιc Fc w (.qbq id ver rr c) v->qay Hc' (ι4 n ιc ι3) F3 w' (.qbq id ver rr c) v)/\∀v,qay Hc ιc Fc w (.qcd id) v->qay Hc' (ι4 n ιc ι3) F3 w' (.qcd id) v:=fun id h hb=>by
   obtain⟨l1,l2⟩:=low id h;rcases b.low id l1 l2 with e|e|⟨e1,e2⟩|⟨x,e1,e2,e3,e4,e5⟩
   ·exact absurd e hb
   ·exact⟨fun _ _ _ v h=>⟨h.1,by rw[e];trivial⟩,fun _ _ _ v h=>⟨h.1,by rw[e];trivial⟩,fun v h=>⟨h.1,by rw[e];trivial⟩⟩
   ·exact qvw r k r3 e1 e2 (fun his=>(b.out id e1 his).1)
   ·exact q0v r r3 e1 e2 e3 e4 e5
  have key:∀u v,qay E.H0 E.ι0 E.F0 E.w0 u v->qay Hc ιc Fc w u v->qay Hc' (ι4 n ιc ι3) F3 w' u v:=by
   intro u
   induction u with
   |ptr id ver rr c=>
    intro v h0 h1;exact(leaf id (fun e=>by obtain⟨_,h0⟩:=h0;rw[e]at h0;exact h0) (fun e=>by obtain⟨_,h1⟩:=h1;rw[e]at h1;exact h1)).1 _ _ _ _ h1
   |qbq id ver rr c=>
    intro v h0 h1;exact(leaf id (fun e=>by obtain⟨_,h0⟩:=h0;rw[e]at h0;exact h0) (fun e=>by obtain⟨_,h1⟩:=h1;rw[e]at h1;exact h1)).2.1 _ _ _ _ h1
   |qcd id=>
    intro v h0 h1;exact(leaf id (fun e=>by obtain⟨_,h0⟩:=h0;rw[e]at h0;exact h0) (fun e=>by obtain⟨_,h1⟩:=h1;rw[e]at h1;exact h1)).2.2 _ h1
   |fn f n cap ih=>
    rintro v ⟨cs,h1,h2,h3⟩ ⟨cs',h1',h2',h3'⟩
    rw[h1]at h1';injection h1' with _ _ h1';subst h1';refine⟨cs,h1,h2,fun j hj=>?_⟩;obtain⟨c,a,b⟩:=h3 j hj;obtain⟨c',a',b'⟩:=h3' j hj;rw[a]at a';injection a' with a';subst a';exact⟨c,a,ih j _ b b'⟩
   |agg n get ih=>
    rintro v ⟨cs,h1,h2,h3⟩ ⟨cs',h1',h2',h3'⟩
    rw[h1]at h1';injection h1' with h1';subst h1';refine⟨cs,h1,h2,fun j hj=>?_⟩;obtain⟨c,a,p,b⟩:=h3 j hj;obtain⟨c',a',p',b'⟩:=h3' j hj;rw[a]at a';injection a' with a';subst a';exact⟨c,a,p,ih j _ b b'⟩
   |tup n get ih=>
    rintro v ⟨cs,h1,h2,h3⟩ ⟨cs',h1',h2',h3'⟩
    rw[h1]at h1';injection h1' with h1';subst h1';refine⟨cs,h1,h2,fun j hj=>?_⟩;obtain⟨c,a,b⟩:=h3 j hj;obtain⟨c',a',b'⟩:=h3' j hj;rw[a]at a';injection a' with a';subst a';exact⟨c,a,ih j _ b b'⟩
   |un=>exact fun _ _ _=>trivial
   |und=>exact fun _ _ h=>h
   |t x=>exact fun v _ h=>q6u (u:=.t x) r3 (fun H M H' ι' F w v (h:Reads F w x v)=>(show Reads F w x v from h)) v h
   |qby=>exact fun _ _ h=>h
   |qej=>exact fun _ _ h=>h
   |qek=>exact fun _ _ h=>h
   |qel=>exact fun _ _ h=>h
   |fp k g=>exact fun v _ h=>q6u (u:=.fp k g) r3 (fun H M H' ι' F w v (h:∃b o,v=.pointer (some ⟨b,o,none⟩)/\F b/\∀j,j<k->∃c,w.cell? ⟨b,o+j,none⟩=some c/\Reads F w (g j) c)=>h) v h
  exact fun u v h=>key u v h (r.ext u v h)
end Go.Abs
namespace Go.Abs
open Go
inductive Sh where
 |un
 |b
 |i (k:IntKind)
 |s
 |fz (N:Ty)
 |st (n:Nat)
 |fp (N:Ty) (c:Nat)
 |qby
 |qej
 |qek
 |qel
 |qji
 |ptr (id c:Nat)
 |q2n (id c:Nat)
 |part (id:Nat)
 |full (id:Nat)
 |qcd (id:Nat)
 |agg (l:List Sh)
 |tup (l:List Sh)
 |fn (f:FuncId) (l:List Sh)
inductive OSh where
 |dead
 |lst (e:TypeId) (N:Ty)
 |box (e:TypeId) (N:Ty)
 |cells (e:TypeId) (l:List Sh)
 |mp (s:Bool) (N:Ty)
section
variable [SU] [qa2]
mutual
@[reducible] def Sh.D:Sh->Type
 |.un=>Unit
 |.b=>Bool
 |.i _=>Int
 |.s=>ByteArray
 |.fz N=>List N.D
 |.st n=>SU.D n
 |.fp N _=>N.D
 |.qby=>Unit
 |.qej=>Unit
 |.qek=>Unit
 |.qel=>Unit
 |.qji=>Unit
 |.ptr _ _=>Unit
 |.q2n _ _=>Nat
 |.part _=>Nat×Nat
 |.full _=>Unit
 |.qcd _=>Unit
 |.agg l=>DS l
 |.tup l=>DS l
 |.fn _ l=>DS l
@[reducible] def DS:List Sh->Type
 |[]=>Unit
 |a::l=>a.D×DS l
end
@[reducible] def OSh.D:OSh->Type
 |.dead=>Unit
 |.lst _ N=>List N.D
 |.box _ N=>N.D
 |.cells _ l=>DS l
 |.mp _ N=>qce->Option N.D
@[reducible] def DO:List OSh->Type
 |[]=>Unit
 |a::l=>a.D×DO l
@[reducible] def DT:List (Nat×Sh)->Type
 |[]=>Unit
 |(_,a)::l=>a.D×DT l
mutual
def mkE:(a:Sh)->a.D->EV
 |.un,_=>.un
 |.b,x=>.b x
 |.i k,x=>.i k x
 |.s,x=>.s x
 |.fz N,x=>.fz N x
 |.st n,x=>.st n x
 |.fp N c,x=>.fp N x c
 |.qby,_=>.qby
 |.qej,_=>.qej
 |.qek,_=>.qek
 |.qel,_=>.qel
 |.qji,_=>.qji
 |.ptr id c,_=>.ptr id [] 0 c
 |.q2n id c,r=>.ptr id [] r c
 |.part id,r=>.qbq id [] r.1 r.2
 |.full id,_=>.qa5 id []
 |.qcd id,_=>.qcd id
 |.agg l,x=>.agg (qnt l x)
 |.tup l,x=>.tup (qnt l x)
 |.fn f l,x=>.fn f (qnt l x)
def qnt:(l:List Sh)->DS l->List EV
 |[],_=>[]
 |a::l,x=>mkE a x.1::qnt l x.2
end
def mkO:(o:OSh)->o.D->OD
 |.dead,_=>.dead
 |.lst e N,l=>.lst ⟨e,N,l⟩
 |.box e N,x=>.lst ⟨e,N,[x]⟩
 |.cells e l,x=>.cells e (qnt l x)
 |.mp s N,g=>.mp s N g
def qpy:(l:List (Nat×Sh))->DT l->Nat->EV
 |[],_,_=>.un
 |(t,a)::l,x,y=>bif Nat.beq y t then mkE a x.1 else qpy l x.2 y
def mkObj:(l:List OSh)->DO l->Nat->OD
 |[],_,_=>.none
 |o::_,x,0=>mkO o x.1
 |_::l,x,j+1=>mkObj l x.2 j
def mkH(lo:Nat)(os:List OSh)(y:DO os):qad:=⟨os.length,lo,mkObj os y,[]⟩
def qhz:List (Option Nat)->Nat->Option Nat
 |[],_=>none
 |a::_,0=>a
 |_::l,j+1=>qhz l j
def isK(ks:List (Option Nat))(j k:Nat):Bool:=match qhz ks j with
 |some x=>Nat.beq x k
 |none=>false
def noK:List (Option Nat)->Nat->Bool
 |[],_=>false
 |none::_,0=>true
 |some _::_,0=>false
 |_::l,j+1=>noK l j
theorem qg8{ks:List (Option Nat)}{j k:Nat}(h:isK ks j k=true):qhz ks j=some k:=by
 unfold isK at h;split at h
 ·rename_i x hx;rw[hx,zg2 h]
 ·cases h
theorem qtp:∀ {ks:List (Option Nat)} {j:Nat},noK ks j=true->qhz ks j=none/\j<ks.length
 |[],_,h=>by cases h
 |none::_,0,h=>⟨rfl,by simp⟩
 |some _::_,0,h=>by cases h
 |none::l,j+1,h=>by obtain⟨h1,h2⟩:=qtp (ks:=l) (j:=j) h;exact⟨h1,by simpa using h2⟩
 |some _::l,j+1,h=>by obtain⟨h1,h2⟩:=qtp (ks:=l) (j:=j) h;exact⟨h1,by simpa using h2⟩
theorem qpu:∀ {ks:List (Option Nat)} {j k:Nat},qhz ks j=some k->j<ks.length
 |[],_,_,h=>by cases h
 |_::_,0,_,_=>by simp
 |_::l,j+1,k,h=>by have:=qpu (ks:=l) (j:=j) h;simpa using this
mutual
def exE(ks:List (Option Nat)):(a:Sh)->EV->Option a.D
 |.un,_=>some ()
 |.b,.b x=>some x
 |.i k,.i k' n=>bif qdo k k' then some n else none
 |.s,.s x=>some x
 |.fz N,.fz τ' l=>qbt List τ' N l
 |.fz _,.qby=>some []
 |.st n,.st k x=>qt2 SU.D k n x
 |.st n,.agg l=>bif qa2.fro n then qa2.make n l else none
 |.fp N c,.fp τ' x c'=>bif Nat.beq c c' then qbt (fun X=>X) τ' N x else none
 |.qby,.qby=>some ()
 |.qej,.qej=>some ()
 |.qek,.qek=>some ()
 |.qel,.qel=>some ()
 |.qji,.qji=>some ()
 |.ptr id c,.ptr k p r c'=>match p with
  |[]=>bif Nat.beq r 0&&Nat.beq c c'&&isK ks id k then some ()else none
  |_=>none
 |.q2n id c,.ptr k p r c'=>match p with
  |[]=>bif Nat.beq c c'&&isK ks id k then some r else none
  |_=>none
 |.part id,.qbq k p r n=>match p with
  |[]=>bif isK ks id k then some (r,n)else none
  |_=>none
 |.full id,.qa5 k p=>match p with
  |[]=>bif isK ks id k then some ()else none
  |_=>none
 |.full id,.qby=>bif noK ks id then some ()else none
 |.qcd id,.qcd k=>bif isK ks id k then some ()else none
 |.agg l,.agg m=>qxg ks l m
 |.agg l,.st k x=>bif qa2.fro k then qxg ks l (qc3 0 [] (.st k) x 0 0 (SU.sz k))else none
 |.tup l,.tup m=>qxg ks l m
 |.fn f l,.fn g m=>bif Nat.beq f g then qxg ks l m else none
 |_,_=>none
def qxg(ks:List (Option Nat)):(l:List Sh)->List EV->Option (DS l)
 |[],[]=>some ()
 |a::l,u::m=>match exE ks a u with
  |some x=>match qxg ks l m with
   |some y=>some (x,y)
   |none=>none
  |none=>none
 |_,_=>none
end
def exO(ks:List (Option Nat))(k:Nat):(o:OSh)->OD->Option o.D
 |.dead,_=>some ()
 |.lst e N,.lst v=>bif Nat.beq v.e e then qbt List v.N N v.l else none
 |.box e N,.lst ⟨e',τ',[x]⟩=>bif Nat.beq e' e then qbt (fun X=>X) τ' N x else none
 |.cells e l,.cells e' m=>bif Nat.beq e' e then qxg ks l m else none
 |.cells e l,.lst ⟨e',τ',[x]⟩=>bif Nat.beq e' e&&qj2 τ' then qxg ks l (qc3 k [] τ' x 0 0 τ'.sz)else none
 |.mp s N,.mp s' τ' g=>bif s==s' then qbt (fun X=>qce->Option X) τ' N g else none
 |_,_=>none
def exV:(o:OSh)->Option o.D
 |.dead=>some ()
 |.lst _ _=>some []
 |_=>none
def qow(ks:List (Option Nat))(H:qad):(l:List OSh)->List (Option Nat)->Option (DO l)
 |[],[]=>some ()
 |o::l,some k::m=>match exO ks k o (H.obj k)with
  |some x=>match qow ks H l m with
   |some y=>some (x,y)
   |none=>none
  |none=>none
 |o::l,none::m=>match exV o with
  |some x=>match qow ks H l m with
   |some y=>some (x,y)
   |none=>none
  |none=>none
 |_,_=>none
def exT(ks:List (Option Nat))(env:Nat->EV):(l:List (Nat×Sh))->Option (DT l)
 |[]=>some ()
 |(t,a)::l=>match exE ks a (env t)with
  |some x=>match exT ks env l with
   |some y=>some (x,y)
   |none=>none
  |none=>none
mutual
def zc2:Sh->EV->List (Nat×Option Nat)->List (Nat×Option Nat)
 |.ptr id _,.ptr k _ _ _,b=>(id,some k)::b
 |.q2n id _,.ptr k _ _ _,b=>(id,some k)::b
 |.part id,.qbq k _ _ _,b=>(id,some k)::b
 |.full id,.qa5 k _,b=>(id,some k)::b
 |.full id,.qby,b=>(id,none)::b
 |.qcd id,.qcd k,b=>(id,some k)::b
 |.agg l,.agg m,b=>qst l m b
 |.tup l,.tup m,b=>qst l m b
 |.fn _ l,.fn _ m,b=>qst l m b
 |_,_,b=>b
def qst:List Sh->List EV->List (Nat×Option Nat)->List (Nat×Option Nat)
 |a::l,u::m,b=>qst l m (zc2 a u b)
 |_,_,b=>b
end
def q5g(env:Nat->EV):List (Nat×Sh)->List (Nat×Option Nat)->List (Nat×Option Nat)
 |[],b=>b
 |(t,a)::l,b=>q5g env l (zc2 a (env t) b)
def q8r:List (Nat×Option Nat)->Nat->Option (Option Nat)
 |[],_=>none
 |(i,k)::l,j=>bif Nat.beq i j then some k else q8r l j
def qub(H:qad):List OSh->Nat->List (Nat×Option Nat)->List (Nat×Option Nat)
 |[],_,b=>b
 |.cells _ l::os,j,b=>match q8r b j with
  |some (some k)=>match H.obj k with
   |.cells _ m=>qub H os (j+1) (qst l m b)
   |_=>qub H os (j+1) b
  |_=>qub H os (j+1) b
 |_::os,j,b=>qub H os (j+1) b
def zdk(b:List (Nat×Option Nat)):List OSh->Nat->List (Option Nat)
 |[],_=>[]
 | _::os,j=>(match q8r b j with
  |some k=>k
  | none=>none)::zdk b os (j+1)
def q93(k:Nat):List (Option Nat)->Bool
 |[]=>false
 |some x::l=>Nat.beq x k||q93 k l
 |none::l=>q93 k l
def qqu:List (Option Nat)->Bool
 |[]=>true
 |some x::l=>!q93 x l&&qqu l
 |none::l=>qqu l
def zdi:Nat->Nat->List (Option Nat)->List OSh->Bool
 |0,_,_,_=>true
 | n+1,j,k::ks,o::os=>(match o with
  |.dead=>true
  |_=>match k with
   |some k=>Nat.beq k j
   | none=>false)&&zdi n (j+1) ks os
 |_,_,_,_=>false
def zfa:Nat->Nat->List OSh->List (Nat×Option Nat)
 |0,_,_=>[]
 |_+1,_,[]=>[]
 |n+1,j,.dead::os=>zfa n (j+1) os
 |n+1,j,_::os=>(j,some j)::zfa n (j+1) os
end
end Go.Abs
namespace Go.Abs
open Go
section
variable {H H':qbe} {m:Id->Option Id} {Z:Id->Prop}
theorem KG.zf1{i j:Id}{r c:Nat}(hl:qaz (H.slot i) (H'.slot j))(hm:m j=some i):KG H H' m Z (.ptr i 0 r c) (.ptr j 0 r c):=by
 rintro E M F w v rr ⟨h0,h1⟩
 refine⟨h0,?_⟩;cases hs':H'.slot j with
 |dead=>trivial
 |mp s g=>trivial
 |qae=>rw[hs']at hl;cases hs:H.slot i<;>rw[hs]at hl<;>exact hl.elim
 |live o'=>
  rw[hs']at hl;cases hs:H.slot i with
  |live o=>
   rw[hs]at hl h1;obtain⟨a,b,c,d⟩:=hl;show 0<=o'.ver/\_;rw[qca hm,a,c];exact h1
  |qae=>rw[hs]at hl;exact hl.elim
  |dead=>rw[hs]at hl;exact hl.elim
  |mp _ _=>rw[hs]at hl;exact hl.elim
theorem KG.q7s{i j:Id}{r n:Nat}(hl:qaz (H.slot i) (H'.slot j))(hm:m j=some i):KG H H' m Z (.qbq i 0 r n) (.qbq j 0 r n):=by
 rintro E M F w v rr ⟨h0,h1⟩
 refine⟨h0,?_⟩;cases hs':H'.slot j with
 |dead=>trivial
 |mp s g=>trivial
 |qae=>rw[hs']at hl;cases hs:H.slot i<;>rw[hs]at hl<;>exact hl.elim
 |live o'=>
  rw[hs']at hl;cases hs:H.slot i with
  |live o=>
   rw[hs]at hl h1;obtain⟨a,b,c,d⟩:=hl;show 0<=o'.ver/\_;rw[qca hm,a,b,c,d];exact h1
  |qae=>rw[hs]at hl;exact hl.elim
  |dead=>rw[hs]at hl;exact hl.elim
  |mp _ _=>rw[hs]at hl;exact hl.elim
theorem KG.zeu{i j:Id}(hl:qaz (H.slot i) (H'.slot j))(hm:m j=some i):KG H H' m Z (.qcd i) (.qcd j):=by
 rintro E M F w v rr ⟨h0,h1⟩
 refine⟨h0,?_⟩;cases hs':H'.slot j with
 |dead=>trivial
 |live o'=>trivial
 |qae=>rw[hs']at hl;cases hs:H.slot i<;>rw[hs]at hl<;>exact hl.elim
 |mp s g=>
  rw[hs']at hl;cases hs:H.slot i with
  |mp _ _=>rw[hs]at h1;rw[qca hm];exact h1
  |qae=>rw[hs]at hl;exact hl.elim
  |dead=>rw[hs]at hl;exact hl.elim
  |live _=>rw[hs]at hl;exact hl.elim
theorem KG.zcw{i j:Id}{r n r' n':Nat}(hd:H'.slot j=.dead):KG H H' m Z (.qbq i 0 r n) (.qbq j 0 r' n'):=fun E M F w v rr h=>⟨h.1,by rw[hd];trivial⟩
theorem KG.zcx{i j:Id}{r n r' n':Nat}(hd:H'.slot j=.dead):KG H H' m Z (.ptr i 0 r n) (.ptr j 0 r' n'):=fun E M F w v rr h=>⟨h.1,by rw[hd];trivial⟩
theorem KG.zfg{i j:Id}(hd:H'.slot j=.dead):KG H H' m Z (.qcd i) (.qcd j):=fun E M F w v rr h=>⟨h.1,by rw[hd];trivial⟩
end
section
variable [SU] [qa2]
structure qik(ks:List (Option Nat))(H H':qad)(m:Id->Option Id):Prop where
 sm:∀j k,qhz ks j=some k->(toH H').slot ⟨j,[]⟩=.dead\/(qaz ((toH H).slot ⟨k,[]⟩) ((toH H').slot ⟨j,[]⟩)/\H'.len j []=H.len k []/\m ⟨j,[]⟩=some ⟨k,[]⟩)
 nn:∀j,qhz ks j=none->j<ks.length->(toH H').slot ⟨j,[]⟩=.dead\/∃o',(toH H').slot ⟨j,[]⟩=.live o'/\o'.ver=0/\H'.len j []=some 0
variable {ks:List (Option Nat)} {H H':qad} {m:Id->Option Id} {Z:Id->Prop}
theorem qik.full(k:qik ks H H' m){j i:Nat}(h:qhz ks j=some i):KG (toH H) (toH H') m Z (toV H.len (.qa5 i [])) (toV H'.len (.qa5 j [])):=by
 simp only[toV];rcases k.sm j i h with hd|⟨h1,h2,h3⟩
 ·cases H.len i []<;>cases H'.len j []<;>exact KG.zcw hd
 ·rw[h2];cases H.len i []<;>exact KG.q7s h1 h3
theorem qik.nil(k:qik ks H H' m){j:Nat}(h:qhz ks j=none)(hl:j<ks.length):KG (toH H) (toH H') m Z .qby (toV H'.len (.qa5 j [])):=by
 simp only[toV];rcases k.nn j h hl with hd|⟨o',h1,h2,h3⟩
 ·have:∀n,KG (toH H) (toH H') m Z .qby (.qbq ⟨j,[]⟩ 0 0 n):=fun n E M F w v rr h=>by
   have h:v=.slice none 0 0:=h;subst h;exact⟨rfl,by rw[hd];trivial⟩
  cases H'.len j []<;>exact this _
 ·rw[h3];exact KG.zc9 h1 h2.symm
mutual
theorem q62(k:qik ks H H' m):∀(a:Sh) (u:EV) (x:a.D),exE ks a u=some x->KG (toH H) (toH H') m Z (toV H.len u) (toV H'.len (mkE a x))
 |.un,u,x,h=>by simp only[mkE,toV];exact KG.un
 |.b,u,x,h=>by
  cases u<;>simp only[exE]at h<;>try(cases h;done)
  injection h with h;subst h;simp only[mkE,toV];exact KG.t _
 |.i k,u,x,h=>by
  cases u<;>simp only[exE]at h<;>try(cases h;done)
  have hh:=qaf h;clear h;obtain⟨h1,h⟩:=hh;have:=qcx h1;subst this;injection h with h;subst h;simp only[mkE,toV];exact KG.t _
 |.s,u,x,h=>by
  cases u<;>simp only[exE]at h<;>try(cases h;done)
  injection h with h;subst h;simp only[mkE,toV];exact KG.t _
 |.fz N,u,x,h=>by
  cases u<;>simp only[exE]at h<;>try(cases h;done)
  ·obtain⟨e,h⟩:=qa0 h;subst e;obtain rfl:=eq_of_heq h;simp only[mkE,toV];exact KG.t _
  ·injection h with h;subst h;simp only[mkE,toV,qx0];exact KG.zer KG.qby (Wk.qby _ _)
 |.st n,u,x,h=>by
  cases u<;>simp only[exE]at h<;>try(cases h;done)
  ·obtain⟨e,h⟩:=qi9 _ _ _ _ _ h;subst e;obtain rfl:=eq_of_heq h;simp only[mkE,toV];exact KG.agg fun j _=>KG.t _
  ·rename_i l;have hh:=qaf h;clear h;obtain⟨hf,h⟩:=hh;obtain⟨m1,m2⟩:=qa2.qp1 _ _ _ h;simp only[mkE,toV,m1];refine KG.agg fun j hj=>?_;obtain⟨u',e1,e2⟩:=m2 j hj;obtain⟨u'',e1',e3⟩:=qa2.qed n x j hf;rw[e1]at e1';injection e1' with e1';subst e1';refine KG.qhy (e2 H.len) ?_;rw[e3 hj];exact KG.t _
 |.fp N c,u,x,h=>by
  cases u<;>simp only[exE]at h<;>try(cases h;done)
  have hh:=qaf h;clear h;obtain⟨hb,h⟩:=hh;obtain rfl:=qbl hb;obtain⟨e,h⟩:=qwc h;subst e;obtain rfl:=eq_of_heq h;simp only[mkE,toV];exact KG.fp
 |.qby,u,x,h=>by cases u<;>simp only[exE]at h<;>first|(cases h;done)|(simp only[mkE,toV];exact KG.qby)
 |.qej,u,x,h=>by cases u<;>simp only[exE]at h<;>first|(cases h;done)|(simp only[mkE,toV];exact KG.qej)
 |.qek,u,x,h=>by cases u<;>simp only[exE]at h<;>first|(cases h;done)|(simp only[mkE,toV];exact KG.qek)
 |.qel,u,x,h=>by cases u<;>simp only[exE]at h<;>first|(cases h;done)|(simp only[mkE,toV];exact KG.qel)
 |.qji,u,x,h=>by cases u<;>simp only[exE]at h<;>first|(cases h;done)|(simp only[mkE,toV];exact KG.t _)
 |.ptr id c,u,x,h=>by
  cases u<;>simp only[exE]at h<;>try(cases h;done)
  rename_i i p r c';cases p with
  |cons _ _=>cases h
  |nil=>
   have hh:=qaf h;clear h;obtain⟨hb,h⟩:=hh;simp only[zgz]at hb;obtain⟨⟨b1,b2⟩,b3⟩:=hb;obtain rfl:=qbl b1;obtain rfl:=qbl b2;simp only[mkE,toV];rcases k.sm id i (qg8 b3)with hd|⟨h1,h2,h3⟩
   ·exact KG.zcx hd
   ·exact KG.zf1 h1 h3
 |.q2n id c,u,x,h=>by
  cases u<;>simp only[exE]at h<;>try(cases h;done)
  rename_i i p r c';cases p with
  |cons _ _=>cases h
  |nil=>
   have hh:=qaf h;clear h;obtain⟨hb,h⟩:=hh;simp only[zgz]at hb;obtain⟨b2,b3⟩:=hb;obtain rfl:=qbl b2;injection h with h;subst h;simp only[mkE,toV];rcases k.sm id i (qg8 b3)with hd|⟨h1,h2,h3⟩
   ·exact KG.zcx hd
   ·exact KG.zf1 h1 h3
 |.part id,u,x,h=>by
  cases u<;>simp only[exE]at h<;>try(cases h;done)
  rename_i i p r n;cases p with
  |cons _ _=>cases h
  |nil=>
   have hh:=qaf h;clear h;obtain⟨hb,h⟩:=hh;injection h with h;subst h;simp only[mkE,toV];rcases k.sm id i (qg8 hb)with hd|⟨h1,h2,h3⟩
   ·exact KG.zcw hd
   ·exact KG.q7s h1 h3
 |.full id,u,x,h=>by
  cases u<;>simp only[exE]at h<;>try(cases h;done)
  ·rename_i i p;cases p with
   |cons _ _=>cases h
   |nil=>
    have hh:=qaf h;clear h;obtain⟨hb,h⟩:=hh;simp only[mkE];exact k.full (qg8 hb)
  ·have hh:=qaf h;clear h;obtain⟨hb,h⟩:=hh;obtain⟨h1,h2⟩:=qtp hb;simp only[mkE];rw[show toV H.len .qby=.qby by simp only[toV]];exact k.nil h1 h2
 |.qcd id,u,x,h=>by
  cases u<;>simp only[exE]at h<;>try(cases h;done)
  rename_i i;have hh:=qaf h;clear h;obtain⟨hb,h⟩:=hh;simp only[mkE,toV];rcases k.sm id i (qg8 hb)with hd|⟨h1,h2,h3⟩
  ·exact KG.zfg hd
  ·exact KG.zeu h1 h3
 |.agg l,u,x,h=>by
  cases u<;>simp only[exE]at h<;>try(cases h;done)
  ·rename_i k' y;have hh:=qaf h;clear h;obtain⟨hf,h⟩:=hh;obtain⟨e1,e2⟩:=qie k l _ x h;rw[qb0]at e1;simp only[mkE,toV,<- e1];refine KG.agg fun j hj=>?_;have:=e2 j (by rw[qb0];exact hj)
   rw[qds _ _ _ _ _ _ _ _ _ hj,zg9,qif (N:=.st k') hf hj]at this;exact this
  ·rename_i l';obtain⟨e1,e2⟩:=qie k l l' x h;simp only[mkE,toV,<- e1];exact KG.agg fun j hj=>e2 j hj
 |.tup l,u,x,h=>by
  cases u<;>simp only[exE]at h<;>try(cases h;done)
  rename_i l';obtain⟨e1,e2⟩:=qie k l l' x h;simp only[mkE,toV,<- e1];exact KG.tup fun j hj=>e2 j hj
 |.fn f l,u,x,h=>by
  cases u<;>simp only[exE]at h<;>try(cases h;done)
  rename_i f' l';have hh:=qaf h;clear h;obtain⟨hb,h⟩:=hh;obtain rfl:=qbl hb;obtain⟨e1,e2⟩:=qie k l l' x h;simp only[mkE,toV,<- e1];exact KG.fn fun j hj=>e2 j hj
theorem qie(k:qik ks H H' m):∀(l:List Sh) (us:List EV) (x:DS l),qxg ks l us=some x->us.length=(qnt l x).length/\∀j,j<us.length->KG (toH H) (toH H') m Z (qa3 H.len us j) (qa3 H'.len (qnt l x) j)
 |[],us,x,h=>by
  cases us with
  |nil=>exact⟨rfl,fun j hj=>absurd hj (zhf _)⟩
  |cons _ _=>cases h
 |a::l,us,x,h=>by
  cases us with
  |nil=>cases h
  |cons u us=>
   simp only[qxg]at h;split at h
   ·rename_i x1 h1;split at h
    ·rename_i x2 h2;injection h with h;subst h;have e:=q62 k a u x1 h1;obtain⟨e1,e2⟩:=qie k l us x2 h2;refine⟨by simp only[qnt,zg1,e1],fun j hj=>?_⟩;cases j with
     |zero=>simp only[qnt,qa3];exact e
     |succ j=>simp only[qnt,qa3];exact e2 j (by simpa using hj)
    ·cases h
   ·cases h
end
theorem qov(k:qik ks H H' m){env:Nat->EV}:∀(l:List (Nat×Sh)) (x:DT l),exT ks env l=some x->∀t,KG (toH H) (toH H') m Z (toV H.len (env t)) (toV H'.len (qpy l x t))
 |[],x,h,t=>by simp only[qpy,toV];exact KG.un
 |(r,a)::l,x,h,t=>by
  simp only[exT]at h;split at h
  ·rename_i x1 h1;split at h
   ·rename_i x2 h2;injection h with h;subst h;simp only[qpy];cases hb:Nat.beq t r with
    |true=>obtain rfl:=qbl hb;exact q62 k a _ x1 h1
    |false=>exact qov k l x2 h2 t
   ·cases h
  ·cases h
def q6p:List OSh->Nat->Option OSh
 |[],_=>none
 |o::_,0=>some o
 |_::l,j+1=>q6p l j
theorem qid{H:qad}:∀(l:List OSh) (ms:List (Option Nat)) (y:DO l),qow ks H l ms=some y->l.length=ms.length/\∀j,j<l.length->∃o,q6p l j=some o /\
  ((∃k x,qhz ms j=some k/\exO ks k o (H.obj k)=some x/\mkObj l y j=mkO o x)\/(∃x,qhz ms j=none/\exV o=some x/\mkObj l y j=mkO o x))
 |[],ms,y,h=>by
  cases ms with
  |nil=>exact⟨rfl,fun j hj=>absurd hj (zhf _)⟩
  |cons a ms=>cases a<;>cases h
 |o::l,ms,y,h=>by
  cases ms with
  |nil=>cases h
  |cons a ms=>
   cases a with
   |some k=>
    simp only[qow]at h;split at h
    ·rename_i x1 h1;split at h
     ·rename_i x2 h2;injection h with h;subst h;obtain⟨e1,e2⟩:=qid l ms x2 h2;refine⟨by simp[e1],fun j hj=>?_⟩;cases j with
      |zero=>exact⟨o,rfl,.inl ⟨k,x1,rfl,h1,rfl⟩⟩
      |succ j=>exact e2 j (by simpa using hj)
     ·cases h
    ·cases h
   |none=>
    simp only[qow]at h;split at h
    ·rename_i x1 h1;split at h
     ·rename_i x2 h2;injection h with h;subst h;obtain⟨e1,e2⟩:=qid l ms x2 h2;refine⟨by simp[e1],fun j hj=>?_⟩;cases j with
      |zero=>exact⟨o,rfl,.inr ⟨x1,rfl,h1,rfl⟩⟩
      |succ j=>exact e2 j (by simpa using hj)
     ·cases h
    ·cases h
theorem qfz:∀(l:List OSh) (y:DO l) (j:Nat),l.length<=j->mkObj l y j=.none
 |[],_,_,_=>rfl
 |_::l,y,0,h=>by simp at h
 |_::l,y,j+1,h=>qfz l y.2 j (by simpa using h)
def mK(ks:List (Option Nat)):Id->Option Id:=fun i=>match qhz ks i.k with
 |some k=>some ⟨k,i.p⟩
 |none=>none
inductive quh(H:qad)(k:Nat)(ks:List (Option Nat)):(o:OSh)->o.D->Prop where
 |dead {x:Unit}:quh H k ks .dead x
 |lst {e:TypeId} {N:Ty} {l:List N.D} (ho:H.obj k=.lst ⟨e,N,l⟩):quh H k ks (.lst e N) l
 |box {e:TypeId} {N:Ty} {x:N.D} (ho:H.obj k=.lst ⟨e,N,[x]⟩):quh H k ks (.box e N) x
 |cells {e:TypeId} {l:List Sh} {m:List EV} {x:DS l} (ho:H.obj k=.cells e m) (hx:qxg ks l m=some x):quh H k ks (.cells e l) x
 |zfi {e:TypeId} {l:List Sh} {N:Ty} {z:N.D} {x:DS l} (ho:H.obj k=.lst ⟨e,N,[z]⟩) (hf:qj2 N=true) (hx:qxg ks l (qc3 k [] N z 0 0 N.sz)=some x):quh H k ks (.cells e l) x
 |mp {s:Bool} {N:Ty} {g:qce->Option N.D} (ho:H.obj k=.mp s N g):quh H k ks (.mp s N) g
theorem qqg{H:qad}{k:Nat}:∀(o:OSh) (x:o.D),exO ks k o (H.obj k)=some x->quh H k ks o x
 |.dead,x,h=>.dead
 |.lst e N,x,h=>by
  cases ho:H.obj k<;>rw[ho]at h<;>simp only[exO]at h<;>try(cases h;done)
  rename_i v;obtain⟨ve,vτ,vl⟩:=v;have hh:=qaf h;clear h;obtain⟨hb,h⟩:=hh;obtain rfl:=qbl hb;obtain⟨e1,h⟩:=qa0 h;simp only at e1;subst e1;obtain rfl:=eq_of_heq h;exact .lst ho
 |.box e N,x,h=>by
  cases ho:H.obj k<;>rw[ho]at h<;>try(cases h;done)
  rename_i v;obtain⟨ve,vτ,vl⟩:=v
  match vl,h,ho with
  |[],h,ho=>cases h
  |[z],h,ho=>
   simp only[exO]at h;have hh:=qaf h;clear h;obtain⟨hb,h⟩:=hh;obtain rfl:=qbl hb;obtain⟨e1,h⟩:=qwc h;subst e1;obtain rfl:=eq_of_heq h;exact .box ho
  |_::_::_,h,ho=>cases h
 |.cells e l,x,h=>by
  cases ho:H.obj k<;>rw[ho]at h<;>try(cases h;done)
  ·rename_i v;obtain⟨ve,vτ,vl⟩:=v
   match vl,h,ho with
   |[],h,ho=>cases h
   |[z],h,ho=>
    simp only[exO]at h;have hh:=qaf h;clear h;obtain⟨hb,h⟩:=hh;simp only[zgz]at hb;obtain rfl:=qbl hb.1;exact .zfi ho hb.2 h
   |_::_::_,h,ho=>cases h
  ·simp only[exO]at h;have hh:=qaf h;clear h;obtain⟨hb,h⟩:=hh;obtain rfl:=qbl hb;exact .cells ho h
 |.mp s N,x,h=>by
  cases ho:H.obj k<;>rw[ho]at h<;>simp only[exO]at h<;>try(cases h;done)
  have hh:=qaf h;clear h;obtain⟨hb,h⟩:=hh;obtain rfl:=eq_of_beq hb;obtain⟨e1,h⟩:=qja _ _ _ _ _ h;subst e1;obtain rfl:=eq_of_heq h;exact .mp ho
end
end Go.Abs
namespace Go.Abs
open Go
section
variable [SU] [qa2]
variable {ks:List (Option Nat)} {H:qad} {lo:Nat} {os:List OSh} {y:DO os}
theorem qfd{j:Nat}{p:List Nat}:(toH (mkH lo os y)).slot ⟨j,p⟩=(mkObj os y j).slot (mkH lo os y).len j p:=rfl
theorem q0f{j:Nat}{p:List Nat}:(mkH lo os y).len j p=(mkObj os y j).len p:=rfl
theorem qk6:∀ {l:List (Option Nat)} {k j:Nat},qhz l j=some k->q93 k l=true
 |[],_,_,h=>by cases h
 |some x::l,k,0,h=>by injection h with h;subst h;simp[q93]
 |none::l,k,0,h=>by cases h
 |some x::l,k,j+1,h=>by simp only[q93,zh0];exact .inr (qk6 (l:=l) h)
 |none::l,k,j+1,h=>qk6 (l:=l) h
theorem qk5:∀ {l:List (Option Nat)} {i j k:Nat},qqu l=true->qhz l i=some k->qhz l j=some k->i=j
 |[],_,_,_,_,h,_=>by cases h
 |some x::l,0,0,k,_,_,_=>rfl
 |none::l,0,_,k,_,h,_=>by cases h
 |none::l,_+1,0,k,_,_,h=>by cases h
 |none::l,i+1,j+1,k,hn,h1,h2=>by rw[qk5 (l:=l) hn h1 h2]
 |some x::l,0,j+1,k,hn,h1,h2=>by
  injection h1 with h1;subst h1;simp only[qqu,zgz,zhn]at hn;rw[qk6 (l:=l) h2]at hn;cases hn.1
 |some x::l,i+1,0,k,hn,h1,h2=>by
  injection h2 with h2;subst h2;simp only[qqu,zgz,zhn]at hn;rw[qk6 (l:=l) h1]at hn;cases hn.1
 |some x::l,i+1,j+1,k,hn,h1,h2=>by
  simp only[qqu,zgz]at hn;rw[qk5 (l:=l) hn.2 h1 h2]
theorem qnc{len:Len}{k:Nat}{e:TypeId}{l:List EV}{p:List Nat}{o':qcu}(h:(OD.cells e l).slot len k p=.live o'):p=[]/\o'={ elem:=e,sz:=l.length,ver:=0,n:=1,get:=fun _ c=>qa3 len l c }:=by
 cases p with
 |cons _ _=>cases h
 |nil=>injection h with h;exact⟨rfl,h.symm⟩
theorem qkr{j k:Nat}{p:List Nat}(h:qhz ks j=some k):mK ks ⟨j,p⟩=some ⟨k,p⟩:=by simp only[mK,h]
theorem zey{j:Nat}{p:List Nat}(h:qhz ks j=none):mK ks ⟨j,p⟩=none:=by simp only[mK,h]
theorem q4o{H H':qad}{j k:Nat}{v:LV}(ho:H.obj k=.lst v)(ho':H'.obj j=.lst v){m:Id->Option Id}{Z:Id->Prop}(hm:∀p,m ⟨j,p⟩=some ⟨k,p⟩) :
  ∀p o',(toH H').slot ⟨j,p⟩=.live o'->∃o,(toH H).slot ⟨k,p⟩=.live o/\o'.ver=o.ver/\o'.elem=o.elem/\o'.sz=o.sz/\o'.n=o.n/\∀r,r<o'.n->∀c,c<o'.sz->KG (toH H) (toH H') m Z (o.get r c) (o'.get r c):=fun p o' h=>by
 have h:(H'.obj j).slot H'.len j p=.live o':=h;rw[ho']at h;simp only[OD.slot]at h;cases hv:v.at p with
 |none=>rw[hv]at h;cases h
 |some a=>
  rw[hv]at h;injection h with h;subst h;have hat:H.at k p=some a:=by simp only[qad.at,ho];exact hv
  have hat':H'.at j p=some a:=by simp only[qad.at,ho'];exact hv
  refine⟨_,qb3 hat,rfl,rfl,rfl,rfl,fun r hr c hc=>?_⟩;show KG _ _ _ _ (qbd H.len k p r c (qam a.N (a.row r) c)) (qbd H'.len j p r c (qam a.N (a.row r) c));cases hcc:qam a.N (a.row r) c with
  |ev u=>exact KG.dat (qbf _ _ _ _ hcc)
  |own t e l=>
   have h1:(toH H).slot ⟨k,p++[c,r]⟩=.live (LV.obj H.len k (p++[c,r]) ⟨t,e,l⟩):=qb3 (by rw[qad.qbv hat,LV.at_one,LV.qd8 hcc]);have h2:(toH H').slot ⟨j,p++[c,r]⟩=.live (LV.obj H'.len j (p++[c,r]) ⟨t,e,l⟩):=qb3 (by rw[qad.qbv hat',LV.at_one,LV.qd8 hcc]);exact KG.q7s (by rw[h1,h2];exact⟨rfl,rfl,rfl,rfl⟩) (hm _)
theorem qgd(h:qow ks H os ks=some y):qik ks H (mkH lo os y) (mK ks):=by
 obtain⟨e1,e2⟩:=qid os ks y h;refine⟨fun j k hj=>?_,fun j hj hl=>?_⟩
 ·obtain⟨o,-,hx⟩:=e2 j (by rw[e1];exact qpu hj)
  rcases hx with⟨k',x,q1,q2,q3⟩|⟨x,q1,q2,q3⟩
  ·rw[hj]at q1;injection q1 with q1;subst q1;rw[qfd,q0f,q3];have rd:=qqg o x q2;cases rd with
   |dead=>exact .inl rfl
   |lst ho=>exact .inr ⟨by show qaz ((H.obj k).slot H.len k []) _;rw[ho,qcc];simp only[mkO];rw[qcc];exact⟨rfl,rfl,rfl,rfl⟩,by unfold qad.len;rw[ho];rfl,qkr hj⟩
   |box ho=>exact .inr ⟨by show qaz ((H.obj k).slot H.len k []) _;rw[ho,qcc];simp only[mkO];rw[qcc];exact⟨rfl,rfl,rfl,rfl⟩,by unfold qad.len;rw[ho];rfl,qkr hj⟩
   |cells ho hx=>
    refine .inr ⟨?_,by unfold qad.len;rw[ho];rfl,qkr hj⟩
    have:=(qc9 ho)
    rw[this];exact⟨rfl,rfl,(qqh _ _ _ hx).symm,rfl⟩
   |zfi ho hf hx=>
    refine .inr ⟨?_,by unfold qad.len;rw[ho];simp only[mkO,OD.len,LV.qa6];rfl,qkr hj⟩
    show qaz ((H.obj k).slot H.len k []) _;rw[ho,qcc];have:=qqh _ _ _ hx;rw[qb0]at this;exact⟨rfl,rfl,this.symm,rfl⟩
   |mp ho=>exact .inr ⟨by show qaz ((H.obj k).slot H.len k []) _;rw[ho];trivial,by unfold qad.len;rw[ho];rfl,qkr hj⟩
  ·rw[hj]at q1;cases q1
 ·obtain⟨o,-,hx⟩:=e2 j (by rw[e1];exact hl)
  rcases hx with⟨k',x,q1,q2,q3⟩|⟨x,q1,q2,q3⟩
  ·rw[hj]at q1;cases q1
  ·rw[qfd,q0f,q3];cases o with
   |dead=>exact .inl rfl
   |lst e N=>
    simp only[exV]at q2;injection q2 with q2;subst q2;refine .inr ⟨_,qcc,rfl,?_⟩;simp only[mkO,OD.len,LV.qa6];rfl
   |_=>cases q2
where
 qqh:∀(l:List Sh) (us:List EV) (x:DS l),qxg ks l us=some x->us.length=(qnt l x).length
  |[],us,x,h=>by cases us<;>first|rfl|cases h
  |a::l,us,x,h=>by
   cases us with
   |nil=>cases h
   |cons u us=>
    simp only[qxg]at h;split at h
    ·split at h
     ·rename_i x2 h2;injection h with h;subst h;simp only[qnt,zg1,qqh l us x2 h2]
     ·cases h
    ·cases h
theorem q0a{Z:Id->Prop}(h:qow ks H os ks=some y):∀i o',(toH (mkH lo os y)).slot i=.live o'->(mK ks i=none/\o'.n=0)\/∃x o,mK ks i=some x/\(toH H).slot x=.live o/\o'.ver=o.ver/\o'.elem=o.elem/\o'.sz=o.sz/\o'.n=o.n /\
  ∀r,r<o'.n->∀c,c<o'.sz->KG (toH H) (toH (mkH lo os y)) (mK ks) Z (o.get r c) (o'.get r c):=by
 have hR:qik ks H (mkH lo os y) (mK ks):=qgd h;obtain⟨e1,e2⟩:=qid os ks y h
 rintro⟨j,p⟩ o' hl
 by_cases hj:j<os.length
 ·obtain⟨o,-,hx⟩:=e2 j hj;rcases hx with⟨k,x,q1,q2,q3⟩|⟨x,q1,q2,q3⟩
  ·right
   have rd:=qqg o x q2;have same:∀ {e:TypeId} {N:Ty} {l:List N.D},H.obj k=.lst ⟨e,N,l⟩->mkO o x=.lst ⟨e,N,l⟩->∃x o,mK ks ⟨j,p⟩=some x/\(toH H).slot x=.live o/\o'.ver=o.ver/\o'.elem=o.elem/\o'.sz=o.sz/\o'.n=o.n /\
     ∀r,r<o'.n->∀c,c<o'.sz->KG (toH H) (toH (mkH lo os y)) (mK ks) Z (o.get r c) (o'.get r c):=fun ho1 ho2=>by
    obtain⟨o1,r1,r2,r3,r4,r5,r6⟩:=q4o (H:=H) (H':=mkH lo os y) (j:=j) (k:=k) (m:=mK ks) (Z:=Z) ho1 (q3.trans ho2) (fun p=>qkr q1) p o' hl;exact⟨⟨k,p⟩,o1,qkr q1,r1,r2,r3,r4,r5,r6⟩
   rw[qfd,q3]at hl;cases rd with
   |dead=>cases hl
   |lst ho=>exact same ho rfl
   |box ho=>exact same ho rfl
   |@cells e l ms x ho hx=>
    obtain⟨rfl,rfl⟩:=qnc hl;obtain⟨f1,f2⟩:=qie hR l ms x hx (Z:=Z);refine⟨⟨k,[]⟩,_,qkr q1,qc9 ho,rfl,rfl,f1.symm,rfl,fun r hr c hc=>?_⟩;exact f2 c (by rw[f1];exact hc)
   |@zfi e l N z x ho hf hx=>
    obtain⟨rfl,rfl⟩:=qnc hl;obtain⟨f1,f2⟩:=qie hR l _ x hx (Z:=Z);have hat:H.at k []=some ⟨e,N,[z]⟩:=by simp only[qad.at,ho,LV.qa6]
    rw[qb0]at f1 f2;refine⟨⟨k,[]⟩,_,qkr q1,qb3 hat,rfl,rfl,f1.symm,rfl,fun r hr c hc=>?_⟩;have hc:c<(qnt l x).length:=hc;have hr:r<1:=hr;obtain rfl:r=0:=by omega
    have:=f2 c (by omega);rw[qds _ _ _ _ _ _ _ _ _ (by omega),zg9]at this;have e3:=qne (v:=⟨e,N,[z]⟩) hat 0 c;have e4:LV.row ⟨e,N,[z]⟩ 0=z:=rfl;rw[e4]at e3;rw[e3]at this;exact this
   |mp ho=>simp only[mkO]at hl;cases p<;>cases hl
  ·left
   refine⟨zey q1,?_⟩;rw[qfd,q3]at hl;cases o with
   |dead=>cases hl
   |lst e N=>
    simp only[exV]at q2;injection q2 with q2;subst q2;simp only[mkO,OD.slot]at hl;cases ha:LV.at ⟨e,N,[]⟩ p with
    |none=>rw[ha]at hl;cases hl
    |some w=>
     rw[ha]at hl;injection hl with hl;subst hl;show w.l.length=0;rw[LV.qgl _ _ _ rfl ha];rfl
   |_=>cases q2
 ·rw[qfd,qfz os y j (zhz hj)]at hl;cases hl
theorem q0g{Z:Id->Prop}(h:qow ks H os ks=some y):∀i s g',(toH (mkH lo os y)).slot i=.mp s g'->∃x g,mK ks i=some x/\(toH H).slot x=.mp s g/\∀k,(g k=none/\g' k=none)\/∃u u',g k=some u/\g' k=some u'/\KG (toH H) (toH (mkH lo os y)) (mK ks) Z u u':=by
 obtain⟨e1,e2⟩:=qid os ks y h
 rintro⟨j,p⟩ s g' hl
 by_cases hj:j<os.length
 ·obtain⟨o,-,hx⟩:=e2 j hj;rw[qfd]at hl;obtain⟨N,g,r1,r2,r3⟩:=qlr hl;rcases hx with⟨k,x,q1,q2,q3⟩|⟨x,q1,q2,q3⟩
  ·rw[q3]at r1;have rd:=qqg o x q2;cases rd with
   |mp ho=>
    injection r1 with a b c;subst a;subst b;obtain rfl:=eq_of_heq c;subst r2;refine⟨⟨k,[]⟩,g',qkr q1,by show(H.obj k).slot _ _ _=_;rw[ho,r3];rfl,fun key=>?_⟩
    subst r3;dsimp only;split
    ·exact .inr ⟨_,_,rfl,rfl,KG.t _⟩
    ·exact .inl ⟨rfl,rfl⟩
   |_=>cases r1
  ·rw[q3]at r1;cases o with
   |mp s N=>cases q2
   |_=>cases r1
 ·rw[qfd,qfz os y j (zhz hj)]at hl;cases hl
theorem q6r(hn:qqu ks=true){i j x:Id}(h1:mK ks i=some x)(h2:mK ks j=some x):i=j:=by
 obtain⟨a,p⟩:=i;obtain⟨b,q⟩:=j;simp only[mK]at h1 h2;cases ha:qhz ks a with
 |none=>rw[ha]at h1;cases h1
 |some k=>
  cases hb:qhz ks b with
  |none=>rw[hb]at h2;cases h2
  |some k'=>
   rw[ha]at h1;rw[hb]at h2;injection h1 with h1;injection h2 with h2;subst h1;injection h2 with h2 h3;subst h2;subst h3;rw[qk5 hn ha hb]
theorem qvf:Nx (toH (mkH lo os y)):=fun i hi=>by
 obtain⟨j,p⟩:=i;have hi:os.length<=j:=hi;rw[qfd,qfz os y j hi];rfl
theorem qjw(h:qow ks H os ks=some y)(hn:qqu ks=true):Part (toH H) (toH (mkH os.length os y)) (mK ks) where
 next:=qvf
 lo:=rfl
 obj:=q0a h
 mp:=q0g h
 inj i j x _ _ h1 h2:=q6r hn h1 h2
theorem qvj:∀ {n j:Nat} {ks:List (Option Nat)} {os:List OSh},zdi n j ks os=true->∀i,i<n->q6p os i=some .dead\/qhz ks i=some (j+i)
 |0,_,_,_,_,i,hi=>absurd hi (zhf _)
 |n+1,j,[],_,h,i,hi=>by cases h
 |n+1,j,_::_,[],h,i,hi=>by cases h
 |n+1,j,k::ks,o::os,h,i,hi=>by
  simp only[zdi,zgz]at h;cases i with
  |zero=>
   cases o with
   |dead=>exact .inl rfl
   |_=>
    right
    cases k with
    |none=>exact absurd h.1 (by simp)
    |some k=>obtain rfl:=qbl h.1;rfl
  |succ i=>
   rcases qvj h.2 i (by omega)with h|h
   ·exact .inl h
   ·right
    show qhz ks i=_;rw[h];congr 1;omega
structure SSh where
 sl:List (Nat×Sh)
 os:List OSh
def mkS(nt lo:Nat)(sh:SSh)(x:DT sh.sl)(y:DO sh.os):ESt:=⟨nt,qpy sh.sl x,mkH lo sh.os y⟩
def exS(s:ESt)(ks:List (Option Nat))(sh:SSh):Option (DT sh.sl×DO sh.os):=bif qqu ks&&zdi s.heap.lo 0 ks sh.os then(match exT ks s.env sh.sl with
 |some x=>match qow ks s.heap sh.os ks with
  |some y=>some (x,y)
  |none=>none
 | none=>none)else none
theorem zcs{s:ESt}{sh:SSh}{x:DT sh.sl}{y:DO sh.os}(h:exS s ks sh=some (x,y)):qb1 s (mkS s.nt s.heap.lo sh x y):=by
 unfold exS at h;obtain⟨hb,h⟩:=qaf h;simp only[zgz]at hb;obtain⟨hn,hlo⟩:=hb;split at h
 ·rename_i x' hx;split at h
  ·rename_i y' hy;injection h with h;injection h with h1 h2;subst h1;subst h2;have hR:qik ks s.heap (mkH s.heap.lo sh.os y') (mK ks):=qgd hy;obtain⟨e1,e2⟩:=qid _ _ _ hy;refine qgs.gen (mK ks) (fun _=>False) rfl ⟨rfl,qvf,fun i o' ho=>?_,fun i sb g' hm=>?_,fun i j x _ _ h1 h2=>q6r hn h1 h2,fun i hi hp=>?_⟩ (fun t=>qov hR sh.sl x' hx t)
   ·rcases q0a (Z:=fun _=>False) hy i o' ho with h|⟨x,o,a,b,c,d,e,f,g⟩
    ·exact .inl h
    ·exact .inr ⟨x,o,a,b,fun h=>h,d,e,zij f,g⟩
   ·obtain⟨x,g,a,b,c⟩:=q0g (Z:=fun _=>False) hy i sb g' hm;exact⟨x,g,a,b,fun h=>h,c⟩
   ·obtain⟨j,p⟩:=i;simp only at hp hi;subst hp
    right
    have hi:j<s.heap.lo:=hi;rcases qvj hlo j hi with h|h
    ·left
     have hj:j<sh.os.length:=by
      refine Classical.byContradiction fun hn=>?_;have:∀(l:List OSh) (j:Nat),l.length<=j->q6p l j=none:=by
       intro l
       induction l with
       |nil=>intro j _;rfl
       |cons o l ih=>intro j hj;cases j with
        |zero=>simp at hj
        |succ j=>exact ih j (by simpa using hj)
      rw[this _ _ (zhz hn)]at h;cases h
     obtain⟨o,ho,hx⟩:=e2 j hj;rw[h]at ho;injection ho with ho;subst ho;rcases hx with⟨k,x,_,_,q3⟩|⟨x,_,_,q3⟩<;>(show(mkObj sh.os y' j).slot _ _ _=_;rw[q3];rfl)
    ·rw[zg9]at h;rcases hR.sm j j h with hd|⟨q1,q2,q3⟩
     ·exact .inl hd
     ·exact .inr ⟨q3,q1⟩
  ·cases h
 ·cases h
def q0s(s:ESt)(sh:SSh):List (Option Nat):=zdk (qub s.heap sh.os 0 (q5g s.env sh.sl (zfa s.heap.lo 0 sh.os))) sh.os 0
end
end Go.Abs
namespace Go.Abs
open Go
structure KCl(K:V->V->Prop):Prop where
 un:∀u,K u .un
 und:K .und .und
 t:∀x,K (.t x) (.t x)
 qby:K .qby .qby
 qej:K .qej .qej
 qek:K .qek .qek
 qel:K .qel .qel
 fp:∀n g,K (.fp n g) (.fp n g)
 agg:∀n g g',(∀j,j<n->K (g j) (g' j))->K (.agg n g) (.agg n g')
 tup:∀n g g',(∀j,j<n->K (g j) (g' j))->K (.tup n g) (.tup n g')
 fn:∀f n g g',(∀j,j<n->K (g j) (g' j))->K (.fn f n g) (.fn f n g')
theorem KCl.of{H H':qbe}{M ι':Id->Option Nat}{F F':Nat->Prop}{w w':World}(ht:∀x v,Reads F w x v->Reads F' w' x v)
  (hfp:∀n g v,qay H M F w (.fp n g) v->qay H' ι' F' w' (.fp n g) v):KCl (fun u u'=>∀v,qay H M F w u v->qay H' ι' F' w' u' v) where
 un u v _:=trivial
 und v h:=h
 t x v h:=ht x v h
 qby v h:=h
 qej v h:=h
 qek v h:=h
 qel v h:=h
 fp n g v h:=hfp n g v h
 agg n g g' h v:=fun⟨cs,h1,h2,h3⟩=>⟨cs,h1,h2,fun j hj=>by obtain⟨c,a,p,b⟩:=h3 j hj;exact⟨c,a,p,h j hj _ b⟩⟩
 tup n g g' h v:=fun⟨cs,h1,h2,h3⟩=>⟨cs,h1,h2,fun j hj=>by obtain⟨c,a,b⟩:=h3 j hj;exact⟨c,a,h j hj _ b⟩⟩
 fn f n g g' h v:=fun⟨cs,h1,h2,h3⟩=>⟨cs,h1,h2,fun j hj=>by obtain⟨c,a,b⟩:=h3 j hj;exact⟨c,a,h j hj _ b⟩⟩
section
variable [SU] [qa2]
mutual
def qgq(g:Nat->Option Nat):EV->EV
 |.ptr k p r c=>match g k with
  |some j=>.ptr j p r c
  |none=>.un
 |.qbq k p r n=>match g k with
  |some j=>.qbq j p r n
  |none=>.un
 |.qa5 k p=>match g k with
  |some j=>.qa5 j p
  |none=>.un
 |.qcd k=>match g k with
  |some j=>.qcd j
  |none=>.un
 |.agg l=>.agg (qg1 g l)
 |.tup l=>.tup (qg1 g l)
 |.fn f l=>.fn f (qg1 g l)
 |.un=>.un
 |.und=>.und
 |.b x=>.b x
 |.i k n=>.i k n
 |.s x=>.s x
 |.fz N l=>.fz N l
 |.fp N x c=>.fp N x c
 |.st i x=>.st i x
 |.qby=>.qby
 |.qej=>.qej
 |.qek=>.qek
 |.qel=>.qel
 |.qji=>.qji
def qg1(g:Nat->Option Nat):List EV->List EV
 |[]=>[]
 |a::l=>qgq g a::qg1 g l
end
theorem qfv(g:Nat->Option Nat):∀l:List EV,(qg1 g l).length=l.length
 |[]=>rfl
 |a::l=>by simp[qg1,qfv g l]
mutual
theorem KCl.ren{K:V->V->Prop}(C:KCl K){len len':Len}{g:Nat->Option Nat}(hp:∀id p r c j,g id=some j->K (.ptr ⟨id,p⟩ 0 r c) (.ptr ⟨j,p⟩ 0 r c))(hs:∀id p r n j,g id=some j->K (.qbq ⟨id,p⟩ 0 r n) (.qbq ⟨j,p⟩ 0 r n))
  (hl:∀id p j,g id=some j->len' j p=len id p) (hm:∀id j,g id=some j->K (.qcd ⟨id,[]⟩) (.qcd ⟨j,[]⟩)):∀u:EV,K (toV len u) (toV len' (qgq g u))
 |.ptr id p r c=>by
  simp only[qgq];cases hg:g id with
  |none=>simp only[toV];exact C.un _
  |some j=>simp only[toV];exact hp id p r c j hg
 |.qbq id p r n=>by
  simp only[qgq];cases hg:g id with
  |none=>simp only[toV];exact C.un _
  |some j=>simp only[toV];exact hs id p r n j hg
 |.qa5 id p=>by
  simp only[qgq];cases hg:g id with
  |none=>simp only[toV];exact C.un _
  |some j=>
   simp only[toV];rw[hl id p j hg];cases len id p<;>exact hs id p 0 _ j hg
 |.qcd id=>by
  simp only[qgq];cases hg:g id with
  |none=>simp only[toV];exact C.un _
  |some j=>simp only[toV];exact hm id j hg
 |.agg l=>by simp only[qgq,toV,qfv];exact C.agg _ _ _ fun j hj=>KCl.zdb C hp hs hl hm l j
 |.tup l=>by simp only[qgq,toV,qfv];exact C.tup _ _ _ fun j hj=>KCl.zdb C hp hs hl hm l j
 |.fn f l=>by simp only[qgq,toV,qfv];exact C.fn _ _ _ _ fun j hj=>KCl.zdb C hp hs hl hm l j
 |.un=>by simp only[qgq,toV];exact C.un _
 |.und=>by simp only[qgq,toV];exact C.und
 |.b _=>by simp only[qgq,toV];exact C.t _
 |.i _ _=>by simp only[qgq,toV];exact C.t _
 |.s _=>by simp only[qgq,toV];exact C.t _
 |.fz _ _=>by simp only[qgq,toV];exact C.t _
 |.fp _ _ _=>by simp only[qgq,toV];exact C.fp _ _
 |.st _ _=>by simp only[qgq,toV];exact C.agg _ _ _ fun j _=>C.t _
 |.qby=>by simp only[qgq,toV];exact C.qby
 |.qej=>by simp only[qgq,toV];exact C.qej
 |.qek=>by simp only[qgq,toV];exact C.qek
 |.qel=>by simp only[qgq,toV];exact C.qel
 |.qji=>by simp only[qgq,toV];exact C.t _
theorem KCl.zdb{K:V->V->Prop}(C:KCl K){len len':Len}{g:Nat->Option Nat}(hp:∀id p r c j,g id=some j->K (.ptr ⟨id,p⟩ 0 r c) (.ptr ⟨j,p⟩ 0 r c))(hs:∀id p r n j,g id=some j->K (.qbq ⟨id,p⟩ 0 r n) (.qbq ⟨j,p⟩ 0 r n))
  (hl:∀id p j,g id=some j->len' j p=len id p) (hm:∀id j,g id=some j->K (.qcd ⟨id,[]⟩) (.qcd ⟨j,[]⟩)):∀(l:List EV) (j:Nat),K (qa3 len l j) (qa3 len' (qg1 g l) j)
 |[],j=>by simp only[qg1,qa3];exact C.un _
 |a::l,0=>by simp only[qg1,qa3];exact KCl.ren C hp hs hl hm a
 |a::l,j+1=>by simp only[qg1,qa3];exact KCl.zdb C hp hs hl hm l j
end
mutual
theorem KCl.qa9{K:V->V->Prop}(C:KCl K){H:qbe}{len len':Len}{f:Nat->List Nat->Option EV}(hp:∀id p r c,H.slot ⟨id,p⟩≠.qae->f id p=none->K (.ptr ⟨id,p⟩ 0 r c) (.ptr ⟨id,p⟩ 0 r c))
  (hs:∀id p r n,H.slot ⟨id,p⟩≠.qae->f id p=none->K (.qbq ⟨id,p⟩ 0 r n) (.qbq ⟨id,p⟩ 0 r n)) (hl:∀id p,H.slot ⟨id,p⟩≠.qae->f id p=none->len' id p=len id p\/∀n n',K (.qbq ⟨id,p⟩ 0 0 n) (.qbq ⟨id,p⟩ 0 0 n'))
  (hm:∀id,H.slot ⟨id,[]⟩≠.qae->f id []=none->K (.qcd ⟨id,[]⟩) (.qcd ⟨id,[]⟩)) (hu:∀id p u,f id p=some u->u=.un):∀u:EV,qfq H (toV len u)->K (toV len u) (toV len' (Abs.qa9 f u))
 |.ptr id p r c,hb=>by
  simp only[Abs.qa9];cases hf:f id p with
  |some u=>simp only[toV];exact C.un _
  |none=>simp only[toV]at hb ⊢;exact hp id p r c hb hf
 |.qbq id p r n,hb=>by
  simp only[Abs.qa9];cases hf:f id p with
  |some u=>simp only[toV];exact C.un _
  |none=>simp only[toV]at hb ⊢;exact hs id p r n hb hf
 |.qa5 id p,hb=>by
  simp only[Abs.qa9];cases hf:f id p with
  |some u=>rw[hu id p u hf];simp only[toV];exact C.un _
  |none=>
   simp only[toV]at hb ⊢;have hb':H.slot ⟨id,p⟩≠.qae:=by cases hx:len id p<;>rw[hx]at hb<;>exact hb
   rcases hl id p hb' hf with e|e
   ·rw[e];cases len id p<;>exact hs id p 0 _ hb' hf
   ·cases len id p<;>cases len' id p<;>exact e _ _
 |.qcd id,hb=>by
  simp only[Abs.qa9];cases hf:f id []with
  |some u=>simp only[toV];exact C.un _
  |none=>simp only[toV]at hb ⊢;exact hm id hb hf
 |.agg l,hb=>by simp only[Abs.qa9,toV,qcf]at hb ⊢;exact C.agg _ _ _ fun j hj=>KCl.qbz C hp hs hl hm hu l j (hb j hj)
 |.tup l,hb=>by simp only[Abs.qa9,toV,qcf]at hb ⊢;exact C.tup _ _ _ fun j hj=>KCl.qbz C hp hs hl hm hu l j (hb j hj)
 |.fn g l,hb=>by simp only[Abs.qa9,toV,qcf]at hb ⊢;exact C.fn _ _ _ _ fun j hj=>KCl.qbz C hp hs hl hm hu l j (hb j hj)
 |.un,_=>by simp only[Abs.qa9,toV];exact C.un _
 |.und,_=>by simp only[Abs.qa9,toV];exact C.und
 |.b _,_=>by simp only[Abs.qa9,toV];exact C.t _
 |.i _ _,_=>by simp only[Abs.qa9,toV];exact C.t _
 |.s _,_=>by simp only[Abs.qa9,toV];exact C.t _
 |.fz _ _,_=>by simp only[Abs.qa9,toV];exact C.t _
 |.fp _ _ _,_=>by simp only[Abs.qa9,toV];exact C.fp _ _
 |.st _ _,_=>by simp only[Abs.qa9,toV];exact C.agg _ _ _ fun j _=>C.t _
 |.qby,_=>by simp only[Abs.qa9,toV];exact C.qby
 |.qej,_=>by simp only[Abs.qa9,toV];exact C.qej
 |.qek,_=>by simp only[Abs.qa9,toV];exact C.qek
 |.qel,_=>by simp only[Abs.qa9,toV];exact C.qel
 |.qji,_=>by simp only[Abs.qa9,toV];exact C.t _
theorem KCl.qbz{K:V->V->Prop}(C:KCl K){H:qbe}{len len':Len}{f:Nat->List Nat->Option EV}(hp:∀id p r c,H.slot ⟨id,p⟩≠.qae->f id p=none->K (.ptr ⟨id,p⟩ 0 r c) (.ptr ⟨id,p⟩ 0 r c))
  (hs:∀id p r n,H.slot ⟨id,p⟩≠.qae->f id p=none->K (.qbq ⟨id,p⟩ 0 r n) (.qbq ⟨id,p⟩ 0 r n)) (hl:∀id p,H.slot ⟨id,p⟩≠.qae->f id p=none->len' id p=len id p\/∀n n',K (.qbq ⟨id,p⟩ 0 0 n) (.qbq ⟨id,p⟩ 0 0 n'))
  (hm:∀id,H.slot ⟨id,[]⟩≠.qae->f id []=none->K (.qcd ⟨id,[]⟩) (.qcd ⟨id,[]⟩)) (hu:∀id p u,f id p=some u->u=.un):∀(l:List EV) (j:Nat),qfq H (qa3 len l j)->K (qa3 len l j) (qa3 len' (Abs.qbz f l) j)
 |[],j,_=>by simp only[Abs.qbz,qa3];exact C.un _
 |a::l,0,hb=>by simp only[Abs.qbz,qa3]at hb ⊢;exact KCl.qa9 C hp hs hl hm hu a hb
 |a::l,j+1,hb=>by simp only[Abs.qbz,qa3]at hb ⊢;exact KCl.qbz C hp hs hl hm hu l j hb
end
def qrk(g:Nat->Option Nat):OD->OD
 |.cells e l=>.cells e (qg1 g l)
 |.lst v=>.lst v
 |.mp s N f=>.mp s N f
 |.dead=>.dead
 |.none=>.none
 |.hole v q r c u=>.hole v q r c (qgq g u)
theorem qu2{g:Nat->Option Nat}(o:OD)(p:List Nat):(qrk g o).len p=o.len p:=by
 cases o<;>first|rfl|(cases p<;>rfl)
structure CT(P:Program)(f:FuncId)(args:List EV)(H:qad)(K:EV->qad->Prop):Prop where
 out:∀E M F w (cargs:Array Value),qc4 E M F (toH H) w->args.length=cargs.size->(∀j,j<args.length->qay (toH H) M F w (toV H.len (qdb args j)) (cargs.getD j undef)) ->
  Calls P f cargs w fun e w'=>∃v ι' F' H' cv,e=.returned cv/\qc4 E ι' F' (toH H') w'/\qay (toH H') ι' F' w' (toV H'.len v) cv/\K v H'
def qc2:(l:List (Nat×Sh))->DT l->List EV
 |[],_=>[]
 |(_,a)::l,x=>mkE a x.1::qc2 l x.2
structure Ctr(P:Program) where
 f:FuncId
 q96:qd0 P f
 ar:List (Nat×Sh)
 os:List OSh
 rv:Sh
 ro:List OSh
 F:DT ar->DO os->Option (rv.D×DO ro)
 ok:∀x y r,F x y=some r->CT P f (qc2 ar x) (mkH os.length os y) (fun v H'=>v=mkE rv r.1/\H'=mkH os.length ro r.2)
def ixK:List (Option Nat)->Nat->Option Nat
 |[],_=>none
 | some k::l,j=>bif Nat.beq k j then some 0 else(match ixK l j with
  |some i=>some (i+1)
  | none=>none)
 |none::l,j=>match ixK l j with
  |some i=>some (i+1)
  |none=>none
theorem qe0:∀ {ks:List (Option Nat)} {j i:Nat},ixK ks j=some i->qhz ks i=some j
 |[],_,_,h=>by cases h
 |some k::l,j,i,h=>by
  simp only[ixK]at h;cases hb:Nat.beq k j with
  |true=>rw[hb]at h;injection h with h;subst h;obtain rfl:=qbl hb;rfl
  |false=>
   rw[hb]at h;simp only[cond_false]at h;cases hi:ixK l j with
   |none=>rw[hi]at h;cases h
   |some x=>rw[hi]at h;injection h with h;subst h;exact qe0 (ks:=l) hi
 |none::l,j,i,h=>by
  simp only[ixK]at h;cases hi:ixK l j with
  |none=>rw[hi]at h;cases h
  |some x=>rw[hi]at h;injection h with h;subst h;exact qe0 (ks:=l) hi
theorem qlb:∀ {ks:List (Option Nat)} {j:Nat},ixK ks j=none->∀i,qhz ks i≠some j
 |[],_,_,i=>by simp[qhz]
 |some k::l,j,h,i=>by
  simp only[ixK]at h;cases hb:Nat.beq k j with
  |true=>rw[hb]at h;cases h
  |false=>
   rw[hb]at h;simp only[cond_false]at h;cases hi:ixK l j with
   |some x=>rw[hi]at h;cases h
   |none=>
    cases i with
    |zero=>intro e;injection e with e;subst e;simp at hb
    |succ i=>exact qlb (ks:=l) hi i
 |none::l,j,h,i=>by
  simp only[ixK]at h;cases hi:ixK l j with
  |some x=>rw[hi]at h;cases h
  |none=>
   cases i with
   |zero=>intro e;cases e
   |succ i=>exact qlb (ks:=l) hi i
def qxy(n:Nat):List (Option Nat)->Bool
 |[]=>true
 |some k::l=>Nat.blt k n&&qxy n l
 |none::l=>qxy n l
theorem qp3{n:Nat}:∀ {ks:List (Option Nat)} {i k:Nat},qxy n ks=true->qhz ks i=some k->k<n
 |[],_,_,_,h=>by cases h
 |some x::l,0,k,hl,h=>by
  simp only[qxy,zgz]at hl;injection h with h;subst h;exact zg4 hl.1
 |none::l,0,k,hl,h=>by cases h
 |some x::l,i+1,k,hl,h=>by
  simp only[qxy,zgz]at hl;exact qp3 (ks:=l) hl.2 h
 |none::l,i+1,k,hl,h=>qp3 (ks:=l) hl h
def qu6(ks:List (Option Nat))(n0:Nat)(i:Nat):Option Nat:=bif Nat.blt i ks.length then qhz ks i else some (n0+(i-ks.length))
def qfn(ks:List (Option Nat)):Nat->List Nat->Option EV:=fun id p=>match p with
 |[]=>none
 |_=>match ixK ks id with
  |some _=>some .un
  |none=>none
def qgj(H:qad)(ks:List (Option Nat))(Hl:qad):qad:={ next:=H.next+(Hl.next-ks.length),lo:=H.lo,md:=H.md,obj:=fun j=>match ixK ks j with
 |some i=>qrk (qu6 ks H.next) (Hl.obj i)
 | none=>bif Nat.blt j H.next then qbw (qfn ks) (H.obj j)else qrk (qu6 ks H.next) (Hl.obj (j-H.next+ks.length)) }
def qnx(H Hl:qad):List (Option Nat)->Nat->Bool
 |[],_=>true
 | some k::l,i=>(match Hl.obj i with
  |.dead=>true
  |_=>match H.len k [],Hl.len i []with
   |some a,some b=>decide (b=a)
   |none,none=>true
   | _,_=>false)&&qnx H Hl l (i+1)
 |none::l,i=>qnx H Hl l (i+1)
theorem qml{H Hl:qad}:∀ {ks:List (Option Nat)} {n i k:Nat},qnx H Hl ks n=true->qhz ks i=some k->Hl.obj (n+i)=.dead\/Hl.len (n+i) []=H.len k []
 |[],_,_,_,_,h=>by cases h
 |some x::l,n,0,k,hl,h=>by
  simp only[qnx,zgz]at hl;injection h with h;subst h;have hl:=hl.1;rw[zh3];split at hl
  ·rename_i e;exact .inl e
  ·right
   split at hl
   ·rename_i a b e1 e2;rw[e1,e2,of_decide_eq_true hl]
   ·rename_i e1 e2;rw[e1,e2]
   ·cases hl
 |none::l,n,0,k,hl,h=>by cases h
 |some x::l,n,i+1,k,hl,h=>by
  simp only[qnx,zgz]at hl;have:=qml (ks:=l) (n:=n+1) (i:=i) hl.2 h;rwa [Nat.add_assoc,zil 1 i]at this
 |none::l,n,i+1,k,hl,h=>by
  have:=qml (ks:=l) (n:=n+1) (i:=i) hl h;rwa [Nat.add_assoc,zil 1 i]at this
end
end Go.Abs
namespace Go.Abs
open Go
variable {P:Program} {d:Option Tmp} {ty:TypeId} {L:List GOp} {ρ:Type}
section
variable [SU] [qa2] {Q:Exit->ESt->Prop}
theorem q6v{ks:List (Option Nat)}(hn:qqu ks=true){i j:Nat}(h:qhz ks i=some j):ixK ks j=some i:=by
 cases hx:ixK ks j with
 |none=>exact absurd h (qlb hx i)
 |some x=>rw[qk5 hn (qe0 hx) h]
def nK(ks:List (Option Nat))(n0:Nat):Id->Option Id:=fun i=>match ixK ks i.k with
 |some x=>some ⟨x,i.p⟩
 |none=>if i.k<n0 then none else some ⟨i.k-n0+ks.length,i.p⟩
theorem qzs{g:Nat->Option Nat}{len len':Len}{k k':Nat}{o:OD}{p:List Nat}(h:o.slot len k p≠.qae):qaz (o.slot len k p) ((qrk g o).slot len' k' p):=by
 cases o with
 |none=>exact absurd rfl h
 |dead=>trivial
 |lst v=>
  simp only[qrk,OD.slot]at h ⊢;cases hv:v.at p with
  |none=>rw[hv]at h;exact absurd rfl h
  |some a=>exact⟨rfl,rfl,rfl,rfl⟩
 |cells e l=>
  cases p with
  |cons x y=>exact absurd rfl h
  |nil=>exact⟨rfl,rfl,by simp only[qfv],rfl⟩
 |hole v q r c u=>
  simp only[qrk,OD.slot]at h ⊢;by_cases hn:q++[c,r] <+: p
  ·simp only[if_pos hn];trivial
  ·simp only[if_neg hn]at h ⊢;cases hv:v.at p with
   |none=>rw[hv]at h;exact absurd rfl h
   |some a=>exact⟨rfl,rfl,rfl,rfl⟩
 |mp s N g=>
  cases p with
  |cons x y=>exact absurd rfl h
  |nil=>trivial
theorem q37{K:V->V->Prop}(C:KCl K){g:Nat->Option Nat}{len len':Len}{k k':Nat}{o:OD}{p:List Nat}{a':qcu}(h:(qrk g o).slot len' k' p=.live a')
  (hE:∀u:EV,K (toV len u) (toV len' (qgq g u))) (hs:∀q n,K (.qbq ⟨k,q⟩ 0 0 n) (.qbq ⟨k',q⟩ 0 0 n)) :
  ∃a,o.slot len k p=.live a/\a'.elem=a.elem/\a'.sz=a.sz/\a'.n=a.n/\∀r,r<a'.n->∀c,c<a'.sz->K (a.get r c) (a'.get r c):=by
 cases o with
 |none=>cases h
 |dead=>cases h
 |hole v q0 r0 c0 u=>
  simp only[qrk,OD.slot]at h ⊢;by_cases hn:q0++[c0,r0] <+: p
  ·rw[if_pos hn]at h;cases h
  rw[if_neg hn]at h ⊢;cases hv:v.at p with
  |none=>rw[hv]at h;cases h
  |some a=>
   rw[hv]at h;injection h with h;subst h;refine⟨_,rfl,rfl,rfl,rfl,fun r hr c hc=>?_⟩;simp only[LV.qj0];by_cases hx:p=q0/\r=r0/\c=c0
   ·rw[if_pos hx,if_pos hx];exact hE u
   rw[if_neg hx,if_neg hx];cases hcc:qam a.N (a.row r) c with
   |ev u=>
    have hd:=qbf _ _ _ _ hcc;have:=hE u
    have e:qgq g u=u:=by cases u<;>first|(cases hd;done)|simp only[qgq]
    rw[e]at this;exact this
   |own t e l=>exact hs _ _
 |mp s N g=>cases p<;>cases h
 |cells e l=>
  cases p with
  |cons x y=>cases h
  |nil=>
   injection h with h;subst h;refine⟨_,rfl,rfl,by simp only[qfv],rfl,fun r hr c hc=>?_⟩;show K (qa3 len l c) (qa3 len' (qg1 g l) c);rw[qde,qde];have e:(qg1 g l).getD c .un=qgq g (l.getD c .un):=by
    have:∀(l:List EV) (c:Nat),(qg1 g l).getD c .un=qgq g (l.getD c .un):=by
     intro l
     induction l with
     |nil=>intro c;simp[qg1,qgq]
     |cons a l ih=>intro c;cases c with
      |zero=>simp[qg1]
      |succ c=>simpa[qg1]using ih c
    exact this l c
   rw[e];exact hE _
 |lst v=>
  simp only[qrk,OD.slot]at h ⊢;cases hv:v.at p with
  |none=>rw[hv]at h;cases h
  |some a=>
   rw[hv]at h;injection h with h;subst h;refine⟨_,rfl,rfl,rfl,rfl,fun r hr c hc=>?_⟩;show K (qbd len k p r c (qam a.N (a.row r) c)) (qbd len' k' p r c (qam a.N (a.row r) c));cases hcc:qam a.N (a.row r) c with
   |ev u=>
    have hd:=qbf _ _ _ _ hcc;have:=hE u
    have e:qgq g u=u:=by cases u<;>first|(cases hd;done)|simp only[qgq]
    rw[e]at this;exact this
   |own t e l=>exact hs _ _
def q32:Nat->List (Nat×Sh)->Bool
 |_,[]=>true
 |j,(i,_)::l=>Nat.beq i j&&q32 (j+1) l
theorem qir:∀ {l:List (Nat×Sh)} {n:Nat} {x:DT l},q32 n l=true->∀j,qdb (qc2 l x) j=qpy l x (n+j)
 |[],n,x,h,j=>by simp[qc2,qpy,qdb]
 |(i,a)::l,n,x,h,j=>by
  simp only[q32,zgz]at h;obtain rfl:=qbl h.1;cases j with
  |zero=>simp only[qc2,qdb,qpy,zh3,zhc,cond_true]
  |succ j=>
   simp only[qc2,qdb,qpy,qav (show ¬ i+(j+1)=i by omega),cond_false];rw[qir h.2 j,Nat.add_assoc,zil 1 j]
theorem qc0:∀(l:List (Nat×Sh)) (x:DT l),(qc2 l x).length=l.length
 |[],_=>rfl
 |_::l,x=>by simp[qc2,qc0 l x.2]
def qha:List OSh->List OSh->Bool
 |[],_=>true
 |.dead::os,.dead::ro=>qha os ro
 |.dead::_,_=>false
 |_::os,_::ro=>qha os ro
 |_::_,[]=>false
theorem qoy:∀ {os ro:List OSh},qha os ro=true->os.length<=ro.length/\∀j,q6p os j=some .dead->q6p ro j=some .dead
 |[],ro,_=>⟨Nat.zero_le _,fun j h=>by cases h⟩
 |o::os,[],h=>by cases o<;>cases h
 |o::os,o'::ro,h=>by
  have key:qha os ro=true/\(o=.dead->o'=.dead):=by
   cases o<;>first
    |exact⟨h,fun e=>by cases e⟩
    |(cases o'<;>first|exact⟨h,fun _=>rfl⟩|cases h)
  obtain⟨h1,h2⟩:=qoy key.1;refine⟨by simpa using h1,fun j hj=>?_⟩;cases j with
  |zero=>injection hj with hj;subst hj;show some o'=_;rw[key.2 rfl]
  |succ j=>exact h2 j hj
theorem qok:∀ {l:List OSh} {y:DO l} {j:Nat},q6p l j=some .dead->mkObj l y j=.dead
 |[],_,_,h=>by cases h
 |o::l,y,0,h=>by injection h with h;subst h;rfl
 |_::l,y,j+1,h=>qok (l:=l) h
theorem q4k{o:OSh}{x:o.D}{len:Len}{k:Nat}:(mkO o x).slot len k []≠.qae:=by
 cases o<;>simp only[mkO,OD.slot,LV.qa6]<;>simp
theorem qoj:∀ {l:List OSh} {y:DO l} {j:Nat} {len:Len} {k:Nat},j<l.length->(mkObj l y j).slot len k []≠.qae
 |[],_,_,_,_,h=>absurd h (zhf _)
 |o::l,y,0,_,_,h=>q4k
 |_::l,y,j+1,_,_,h=>qoj (l:=l) (by simpa using h)
def isNil{α:Type}:List α->Bool
 |[]=>true
 |_=>false
theorem qf2{α:Type}{l:List α}(h:isNil l=true):l=[]:=by
 cases l with
 |nil=>rfl
 |cons a l=>cases h
theorem qso{E:Env}{M:Id->Option Nat}{F:Nat->Prop}{s:ESt}{w:World}(r:qc4 E M F (toH s.heap) w)(hf:Fair s)(c:Ctr P){ks:List (Option Nat)}(hn:qqu ks=true)(hlt:qxy s.heap.next ks=true)
  (hd:qha c.os c.ro=true) {y:DO c.os} (hy:qow ks s.heap c.os ks=some y) {res:c.rv.D×DO c.ro}
  (hlen:qnx s.heap (mkH c.os.length c.ro res.2) ks 0=true) {w':World} {ι3:Id->Option Nat} {F3:Nat->Prop} {cv:Value} (r3:qc4 (qe6 w (toH (mkH c.os.length c.os y)) (mι (mK ks) M) F) ι3 F3 (toH (mkH c.os.length c.ro res.2)) w')
  (hv:qay (toH (mkH c.os.length c.ro res.2)) ι3 F3 w' (toV (mkH c.os.length c.ro res.2).len (mkE c.rv res.1)) cv) :
  ∃ι' F',qc4 E ι' F' (toH (qgj s.heap ks (mkH c.os.length c.ro res.2))) w' /\
   (∀u v,qfq (toH s.heap) (toV s.heap.len u)->qay (toH s.heap) M F w (toV s.heap.len u) v->qay (toH (qgj s.heap ks (mkH c.os.length c.ro res.2))) ι' F' w' (toV (qgj s.heap ks (mkH c.os.length c.ro res.2)).len (qa9 (qfn ks) u)) v) /\
   qay (toH (qgj s.heap ks (mkH c.os.length c.ro res.2))) ι' F' w' (toV (qgj s.heap ks (mkH c.os.length c.ro res.2)).len (qgq (qu6 ks s.heap.next) (mkE c.rv res.1))) cv/\(isNil c.os=true->Grown w w'):=by
 obtain⟨ks_len,hobjs⟩:=qid _ _ _ hy;obtain⟨hdl,hdd⟩:=qoy hd
 let Hl:=mkH c.os.length c.os y
 let Hl':=mkH c.os.length c.ro res.2
 let H':=qgj s.heap ks Hl'
 have pt:Part (toH s.heap) (toH Hl) (mK ks):=qjw hy hn;have hR:qik ks s.heap Hl (mK ks):=qgd hy
 -- names
 have lt0:∀ {i k:Nat},qhz ks i=some k->k<s.heap.next:=fun h=>qp3 hlt h;have objk:∀ {j i:Nat},ixK ks j=some i->H'.obj j=qrk (qu6 ks s.heap.next) (Hl'.obj i):=fun h=>by simp only[H',qgj,h]
 have objo:∀ {j:Nat},ixK ks j=none->j<s.heap.next->H'.obj j=qbw (qfn ks) (s.heap.obj j):=fun {j} h h2=>by
  show(match ixK ks j with|some i=>_|none=>bif Nat.blt j s.heap.next then _ else _)=_;rw[h];dsimp only;rw[qdc h2];rfl
 have objn:∀ {j:Nat},ixK ks j=none->¬ j<s.heap.next->H'.obj j=qrk (qu6 ks s.heap.next) (Hl'.obj (j-s.heap.next+ks.length)):=fun {j} h h2=>by
  show(match ixK ks j with|some i=>_|none=>bif Nat.blt j s.heap.next then _ else _)=_;rw[h];dsimp only;rw[qdv (zhz h2)];rfl
 have nnk:∀ {j i:Nat} {p:List Nat},ixK ks j=some i->nK ks s.heap.next ⟨j,p⟩=some ⟨i,p⟩:=fun h=>by simp only[nK,h]
 have nno:∀ {j:Nat} {p:List Nat},ixK ks j=none->j<s.heap.next->nK ks s.heap.next ⟨j,p⟩=none:=fun h h2=>by simp only[nK,h,if_pos h2]
 have nnn:∀ {j:Nat} {p:List Nat},ixK ks j=none->¬ j<s.heap.next->nK ks s.heap.next ⟨j,p⟩=some ⟨j-s.heap.next+ks.length,p⟩:=fun h h2=>by simp only[nK,h,if_neg h2]
 have oldlt:∀ {id:Nat} {p:List Nat},(toH s.heap).slot ⟨id,p⟩≠.qae->id<s.heap.next:=fun h=>Classical.byContradiction fun hc=>h (hf.next ⟨_,_⟩ (zhz hc));have outo:∀ {i:Id},nK ks s.heap.next i=none->ixK ks i.k=none/\i.k<s.heap.next:=fun {i} h=>by
  simp only[nK]at h;cases hi:ixK ks i.k with
  |some x=>rw[hi]at h;cases h
  |none=>
   rw[hi]at h;simp only at h;by_cases hl:i.k<s.heap.next
   ·exact⟨rfl,hl⟩
   ·rw[if_neg hl]at h;cases h
 have nsome:∀ {i x:Id},nK ks s.heap.next i=some x->H'.obj i.k=qrk (qu6 ks s.heap.next) (Hl'.obj x.k)/\x.p=i.p/\((x.k<ks.length/\qhz ks x.k=some i.k)\/(¬ i.k<s.heap.next/\x.k=i.k-s.heap.next+ks.length)):=fun {i x} h=>by
  cases hi:ixK ks i.k with
  |some z=>
   have:=nnk (p:=i.p) hi;have h:nK ks s.heap.next ⟨i.k,i.p⟩=some x:=h;rw[this]at h;injection h with h;subst h;exact⟨objk hi,rfl,.inl ⟨qpu (qe0 hi),qe0 hi⟩⟩
  |none=>
   by_cases hl:i.k<s.heap.next
   ·have h:nK ks s.heap.next ⟨i.k,i.p⟩=some x:=h;rw[nno hi hl]at h;cases h
   ·have h:nK ks s.heap.next ⟨i.k,i.p⟩=some x:=h;rw[nnn hi hl]at h;injection h with h;subst h;exact⟨objn hi hl,rfl,.inr ⟨hl,rfl⟩⟩
 have slot_like:∀ {i x:Id},nK ks s.heap.next i=some x->(toH Hl').slot x≠.qae->qaz ((toH Hl').slot x) ((toH H').slot i):=fun {i x} h hu=>by
  obtain⟨e1,e2,_⟩:=nsome h;show qaz _ ((H'.obj i.k).slot H'.len i.k i.p);rw[e1,<- e2];exact qzs hu
 have root_in:∀ {id i:Nat},ixK ks id=some i->(toH H').slot ⟨id,[]⟩=.dead\/(qaz ((toH s.heap).slot ⟨id,[]⟩) ((toH Hl).slot ⟨i,[]⟩)/\qaz ((toH Hl').slot ⟨i,[]⟩) ((toH H').slot ⟨id,[]⟩)):=fun {id i} h=>by
  have hi:=qe0 h;have hil:i<c.os.length:=by rw[ks_len];exact qpu hi
  have hil2:i<c.ro.length:=zid hil hdl;have hu:(toH Hl').slot ⟨i,[]⟩≠.qae:=qoj (l:=c.ro) (y:=res.2) hil2;have sl:=slot_like (i:=⟨id,[]⟩) (nnk h) hu;rcases hR.sm i id hi with hdead|⟨q1,q2,q3⟩
  ·left
   -- the callee did not get it
   obtain⟨o,ho,_⟩:=hobjs i hil;have hod:o=.dead:=by
    have hdead:(mkObj c.os y i).slot Hl.len i []=.dead:=hdead;have key:∀(l:List OSh) (y:DO l) (j:Nat) (o:OSh),q6p l j=some o->(mkObj l y j).slot Hl.len i []=.dead->o=.dead:=by
     intro l
     induction l with
     |nil=>intro y j o h;cases h
     |cons a l ih=>
      intro y j o h hdd;cases j with
      |zero=>
       injection h with h;subst h
       cases a<;>simp only[mkObj,mkO,OD.slot,LV.qa6]at hdd<;>first|rfl|cases hdd
      |succ j=>exact ih y.2 j o h hdd
    exact key _ _ _ _ ho hdead
   subst hod;show(H'.obj id).slot _ _ _=_;rw[objk h];show(qrk _ (mkObj c.ro res.2 i)).slot _ _ _=_;rw[qok (hdd i ho)];rfl
  ·exact .inr ⟨q1,sl⟩
 have bk:zdu (toH s.heap) (toH Hl) (toH Hl') (toH H') (mK ks) (nK ks s.heap.next):=by
  refine⟨rfl,fun i hi=>?_,fun i hi his=>?_,fun i j x h1 h2=>?_,fun i hi hp=>?_⟩
  ·have hi:s.heap.next+(c.ro.length-ks.length)<=i.k:=hi;have h1:ixK ks i.k=none:=by
    cases hx:ixK ks i.k with
    |none=>rfl
    |some z=>have:=lt0 (qe0 hx);omega
   show(H'.obj i.k).slot _ _ _=_;rw[objn h1 (by omega)];show(qrk _ (mkObj c.ro res.2 (i.k-s.heap.next+ks.length))).slot _ _ _=_;rw[qfz _ _ _ (by omega)];rfl
  ·obtain⟨h1,h2⟩:=outo hi;refine⟨fun x hx e=>?_,?_⟩
   ·obtain⟨a,p⟩:=x;simp only[mK]at e;cases ha:qhz ks a with
    |none=>rw[ha]at e;cases e
    |some k=>
     rw[ha]at e;injection e with e;subst e;exact qlb h1 a ha
   ·show qaz ((s.heap.obj i.k).slot s.heap.len i.k i.p) ((H'.obj i.k).slot H'.len i.k i.p);have his:((H'.obj i.k).slot H'.len i.k i.p).is:=his;rw[objo h1 h2]at his ⊢;refine qb7 fun hu=>?_;rw[qcm.2 hu]at his;exact his
  ·obtain⟨a1,a2,a3⟩:=nsome h1;obtain⟨b1,b2,b3⟩:=nsome h2;obtain⟨ik,ip⟩:=i;obtain⟨jk,jp⟩:=j;have hp:ip=jp:=a2.symm.trans b2;subst hp;have:ik=jk:=by
    rcases a3 with⟨q1,q2⟩|⟨q1,q2⟩<;>rcases b3 with⟨p1,p2⟩|⟨p1,p2⟩
    ·rw[q2]at p2;injection p2
    ·omega
    ·omega
    ·simp only at q1 q2 p1 p2;omega
   rw[this]
  ·by_cases hu:(toH s.heap).slot i=.qae
   ·exact .inl hu
   ·right
    obtain⟨j,p⟩:=i;simp only at hp;subst hp;have hl:=oldlt hu;cases hx:ixK ks j with
    |none=>
     right;left
     refine⟨nno hx hl,?_⟩;show qaz _ ((H'.obj j).slot H'.len j []);rw[objo hx hl];exact qb7 hu
    |some i=>
     rcases root_in hx with hdead|⟨q1,q2⟩
     ·exact .inl hdead
     ·exact .inr (.inr ⟨⟨i,[]⟩,nnk hx,qkr (qe0 hx),rfl,q1,q2⟩)
 let ι5:=ι4 (nK ks s.heap.next) M ι3
 have CX:KCl (fun u u'=>∀v,qay (toH s.heap) M F w u v->qay (toH H') ι5 F3 w' u' v):=
  KCl.of (fun x v h=>r3.ext (.t x) v h) (fun n g v h=>r3.ext (.fp n g) v h)
 have CY:KCl (fun u u'=>∀v,qay (toH Hl') ι3 F3 w' u v->qay (toH H') ι5 F3 w' u' v):=KCl.of (fun x v h=>h) (fun n g v h=>h)
 -- names of the callee's
 have gn:∀ {i j:Nat} {p:List Nat},qu6 ks s.heap.next i=some j->nK ks s.heap.next ⟨j,p⟩=some ⟨i,p⟩/\H'.obj j=qrk (qu6 ks s.heap.next) (Hl'.obj i):=fun {i j p} h=>by
  simp only[qu6]at h;by_cases hi:i<ks.length
  ·rw[qdc hi,cond_true]at h;have:=q6v hn h;exact⟨nnk this,objk this⟩
  ·rw[qdv (zhz hi),cond_false]at h;injection h with h;have h1:ixK ks j=none:=by
    cases hx:ixK ks j with
    |none=>rfl
    |some z=>have:=lt0 (qe0 hx);omega
   have e:j-s.heap.next+ks.length=i:=by omega
   refine⟨by rw[nnn h1 (by omega),e],by rw[objn h1 (by omega),e]⟩
 have leafY:∀ {x i:Id},nK ks s.heap.next i=some x->(∀rr cc v,qay (toH Hl') ι3 F3 w' (.ptr x 0 rr cc) v->qay (toH H') ι5 F3 w' (.ptr i 0 rr cc) v)/\(∀rr cc v,qay (toH Hl') ι3 F3 w' (.qbq x 0 rr cc) v->qay (toH H') ι5 F3 w' (.qbq i 0 rr cc) v)/\∀v,qay (toH Hl') ι3 F3 w' (.qcd x) v->qay (toH H') ι5 F3 w' (.qcd i) v:=fun {x i} h=>by
  have e4:ι5 i=ι3 x:=qf6 h;refine⟨fun rr cc v ⟨a,b⟩=>⟨a,?_⟩,fun rr cc v ⟨a,b⟩=>⟨a,?_⟩,fun v ⟨a,b⟩=>⟨a,?_⟩⟩
  ·have hl:=slot_like h (fun e=>by rw[e]at b;exact b)
   cases hs:(toH H').slot i with
   |dead=>trivial
   |mp _ _=>trivial
   |qae=>rw[hs]at hl;cases hs':(toH Hl').slot x<;>rw[hs']at hl<;>exact hl.elim
   |live o'=>
    rw[hs]at hl;cases hs':(toH Hl').slot x with
    |live o=>
     rw[hs']at hl b;obtain⟨q1,q2,q3,q4⟩:=hl;show 0<=o'.ver/\_;rw[e4,q1,q3];exact b
    |qae=>rw[hs']at hl;exact hl.elim
    |dead=>rw[hs']at hl;exact hl.elim
    |mp _ _=>rw[hs']at hl;exact hl.elim
  ·have hl:=slot_like h (fun e=>by rw[e]at b;exact b)
   cases hs:(toH H').slot i with
   |dead=>trivial
   |mp _ _=>trivial
   |qae=>rw[hs]at hl;cases hs':(toH Hl').slot x<;>rw[hs']at hl<;>exact hl.elim
   |live o'=>
    rw[hs]at hl;cases hs':(toH Hl').slot x with
    |live o=>
     rw[hs']at hl b;obtain⟨q1,q2,q3,q4⟩:=hl;show 0<=o'.ver/\_;rw[e4,q1,q2,q3,q4];exact b
    |qae=>rw[hs']at hl;exact hl.elim
    |dead=>rw[hs']at hl;exact hl.elim
    |mp _ _=>rw[hs']at hl;exact hl.elim
  ·have hl:=slot_like h (fun e=>by rw[e]at b;exact b)
   cases hs:(toH H').slot i with
   |dead=>trivial
   |live _=>trivial
   |qae=>rw[hs]at hl;cases hs':(toH Hl').slot x<;>rw[hs']at hl<;>exact hl.elim
   |mp _ _=>
    rw[hs]at hl;cases hs':(toH Hl').slot x with
    |mp _ _=>rw[hs']at b;show ∃b,ι5 i=some b/\_;rw[e4];exact b
    |qae=>rw[hs']at hl;exact hl.elim
    |dead=>rw[hs']at hl;exact hl.elim
    |live _=>rw[hs']at hl;exact hl.elim
 have EY:∀u:EV,∀v,qay (toH Hl') ι3 F3 w' (toV Hl'.len u) v->qay (toH H') ι5 F3 w' (toV H'.len (qgq (qu6 ks s.heap.next) u)) v:=fun u=>CY.ren (len:=Hl'.len) (len':=H'.len)
  (fun id p rr cc j hj=>(leafY (gn (p:=p) hj).1).1 rr cc) (fun id p rr cc j hj=>(leafY (gn (p:=p) hj).1).2.1 rr cc)
  (fun id p j hj=>by show(H'.obj j).len p=(Hl'.obj id).len p;rw[(gn (p:=p) hj).2,qu2]) (fun id j hj=>(leafY (gn (p:=[]) hj).1).2.2) u
 -- names of the caller's
 have leafX:∀ {id:Nat} {p:List Nat},(toH s.heap).slot ⟨id,p⟩≠.qae->qfn ks id p=none->(toH H').slot ⟨id,p⟩=.dead\/((∀ver rr cc v,qay (toH s.heap) M F w (.ptr ⟨id,p⟩ ver rr cc) v->qay (toH H') ι5 F3 w' (.ptr ⟨id,p⟩ ver rr cc) v) /\
   (∀ver rr cc v,qay (toH s.heap) M F w (.qbq ⟨id,p⟩ ver rr cc) v->qay (toH H') ι5 F3 w' (.qbq ⟨id,p⟩ ver rr cc) v)/\(∀v,qay (toH s.heap) M F w (.qcd ⟨id,p⟩) v->qay (toH H') ι5 F3 w' (.qcd ⟨id,p⟩) v)):=fun {id p} hb hfn=>by
  have hl:=oldlt hb;cases hx:ixK ks id with
  |none=>
   right
   have hsl:qaz ((toH s.heap).slot ⟨id,p⟩) ((toH H').slot ⟨id,p⟩):=by
    show qaz _ ((H'.obj id).slot H'.len id p);rw[objo hx hl];exact qb7 hb
   exact qvw r pt r3 (nno hx hl) hsl (fun his=>(bk.out _ (nno hx hl) his).1)
  |some i=>
   have hp:p=[]:=by
    cases p with
    |nil=>rfl
    |cons a b=>simp only[qfn,hx]at hfn;cases hfn
   subst hp;rcases root_in hx with hdead|⟨q1,q2⟩
   ·exact .inl hdead
   ·exact .inr (q0v r r3 (nnk hx) (qkr (qe0 hx)) rfl q1 q2)
 have EX:∀u:EV,qfq (toH s.heap) (toV s.heap.len u)->∀v,qay (toH s.heap) M F w (toV s.heap.len u) v->qay (toH H') ι5 F3 w' (toV H'.len (qa9 (qfn ks) u)) v:=fun u hb=>CX.qa9 (H:=toH s.heap) (len:=s.heap.len) (len':=H'.len) (f:=qfn ks)
  (fun id p rr cc hb hfn=>by
   rcases leafX hb hfn with hdead|h
   ·exact fun v h=>⟨h.1,by rw[hdead];trivial⟩
   ·exact h.1 0 rr cc)
  (fun id p rr cc hb hfn=>by
   rcases leafX hb hfn with hdead|h
   ·exact fun v h=>⟨h.1,by rw[hdead];trivial⟩
   ·exact h.2.1 0 rr cc)
  (fun id p hb hfn=>by
   have hl:=oldlt hb;cases hx:ixK ks id with
   |none=>
    left
    exact qad.qdn (objo hx hl) p
   |some i=>
    have hp:p=[]:=by
     cases p with
     |nil=>rfl
     |cons a b=>simp only[qfn,hx]at hfn;cases hfn
    subst hp;rcases qml hlen (qe0 hx)with e|e
    ·right
     rw[zg9]at e;intro n n' v h;refine⟨h.1,?_⟩;have:(toH H').slot ⟨id,[]⟩=.dead:=by
      show(H'.obj id).slot _ _ _=_;rw[objk hx];show(qrk _ (Hl'.obj i)).slot _ _ _=_;have e:Hl'.obj i=.dead:=e;rw[e];rfl
     rw[this];trivial
    ·left
     rw[zg9]at e;show(H'.obj id).len []=_;rw[objk hx,qu2];exact e)
  (fun id hb hfn=>by
   rcases leafX hb hfn with hdead|h
   ·exact fun v h=>⟨h.1,by rw[hdead];trivial⟩
   ·exact h.2.2)
  (fun id p u h=>by
   simp only[qfn]at h;cases p with
   |nil=>cases h
   |cons a b=>
    cases hx:ixK ks id<;>rw[hx]at h<;>first|(cases h;done)|(injection h with h;exact h.symm)) u hb
 refine⟨ι5,F3,zdu.rel r pt r3 bk (fun i o' hi ho=>?_) (fun i x o' hi ho=>?_) (fun i sb g' hi hm=>?_) (fun i x sb g' hi hm=>?_),fun u v hb h=>EX u hb v h,EY _ _ hv,fun hn=>⟨r3.size,fun b hb=>r3.kept b hb (by
  rintro⟨id,his,_⟩
  have hz:mkObj c.os y id.k=.none:=qfz _ _ _ (by rw[qf2 hn];exact Nat.zero_le _)
  have e:(toH Hl).slot id=(mkObj c.os y id.k).slot Hl.len id.k id.p:=rfl;rw[e,hz]at his;exact his)⟩⟩
 ·obtain⟨h1,h2⟩:=outo hi;obtain⟨j,p⟩:=i;have ho:(H'.obj j).slot H'.len j p=.live o':=ho;have hobj:=objo h1 h2
  -- an untouched object
  have kcell:∀(p:List Nat) (r c:Nat) (x:Cell),(∀u,x=.ev u->u.dat=true)->qfq (toH s.heap) (qbd s.heap.len j p r c x)->∀v,qay (toH s.heap) M F w (qbd s.heap.len j p r c x) v->qay (toH H') ι5 F3 w' (qbd H'.len j p r c x) v:=fun p r c x hd hx=>by
   cases x with
   |ev u=>
    have:=EX u hx;have e:qa9 (qfn ks) u=u:=by
     have hd:=hd u rfl
     cases u<;>first|(cases hd;done)|simp only[qa9]
    rw[e]at this;exact this
   |own t e l=>
    intro v hv;simp only[qbd]at hx hv ⊢;have hfn:qfn ks j (p++[c,r])=none:=by
     simp only[qfn];cases p++[c,r]<;>simp[h1]
    rcases leafX hx hfn with hdead|h
    ·exact⟨hv.1,by rw[hdead];trivial⟩
    ·exact h.2.1 _ _ _ v hv
  rw[hobj]at ho;cases hO:s.heap.obj j with
  |none=>rw[hO]at ho;cases ho
  |dead=>rw[hO]at ho;cases ho
  |lst v=>
   rw[hO]at ho;simp only[qbw,OD.slot]at ho;cases hv:v.at p with
   |none=>rw[hv]at ho;cases ho
   |some a=>
    rw[hv]at ho;injection ho with ho;subst ho;have hat:s.heap.at j p=some a:=by simp only[qad.at,hO];exact hv
    exact⟨_,qb3 hat,fun r hr c hc=>kcell p r c _ (qbf _ _ _) (hf.obj _ _ (qb3 hat) r hr c hc)⟩
  |cells e l=>
   rw[hO]at ho;cases p with
   |cons x y=>cases ho
   |nil=>
    injection ho with ho;subst ho;refine⟨_,qc9 hO,fun r hr c hc=>?_⟩;have hc:c<l.length:=by simpa only[qcf]using hc
    have hr:r<1:=hr;have hbb:=hf.obj _ _ (qc9 hO) r hr c hc;show ∀v,qay _ _ _ _ (qa3 s.heap.len l c) v->qay _ _ _ _ (qa3 H'.len (qbz (qfn ks) l) c) v;have hbb:qfq (toH s.heap) (qa3 s.heap.len l c):=hbb;rw[qde]at hbb ⊢;rw[qde];have e:(qbz (qfn ks) l).getD c .un=qa9 (qfn ks) (l.getD c .un):=by
     have:∀(l:List EV) (c:Nat),(qbz (qfn ks) l).getD c .un=qa9 (qfn ks) (l.getD c .un):=by
      intro l
      induction l with
      |nil=>intro c;simp[qbz,qa9]
      |cons a l ih=>intro c;cases c with
       |zero=>simp[qbz]
       |succ c=>simpa[qbz]using ih c
     exact this l c
    rw[e];exact EX _ hbb
  |hole v q r c u=>
   rw[hO]at ho;simp only[qbw,OD.slot]at ho;split at ho
   ·cases ho
   ·rename_i hnn;cases hv:v.at p with
    |none=>rw[hv]at ho;cases ho
    |some a=>
     rw[hv]at ho;injection ho with ho;subst ho;have hl:(toH s.heap).slot ⟨j,p⟩=.live (a.qj0 s.heap.len j p q r c u):=by
      show(s.heap.obj j).slot _ _ _=_;rw[hO];simp only[OD.slot,hv,if_neg hnn]
     refine⟨_,hl,fun r' hr c' hc=>?_⟩;have hbb:=hf.obj _ _ hl r' hr c' hc;simp only[LV.qj0]at hbb ⊢;split
     ·rename_i hx;rw[if_pos hx]at hbb;exact EX _ hbb
     ·rename_i hne;rw[if_neg hne]at hbb;exact kcell p r' c' _ (qbf _ _ _) hbb
  |mp sb N g=>
   rw[hO]at ho;cases p<;>cases ho
 ·obtain⟨e1,e2,_⟩:=nsome hi;obtain⟨j,p⟩:=i;obtain⟨xk,xp⟩:=x;simp only at e1 e2;subst e2;have ho:(H'.obj j).slot H'.len j xp=.live o':=ho;rw[e1]at ho;have hgx:∀q,nK ks s.heap.next ⟨j,q⟩=some ⟨xk,q⟩:=fun q=>by
   simp only[nK]at hi ⊢;cases hx:ixK ks j with
   |some z=>rw[hx]at hi;injection hi with hi;injection hi with hi _;subst hi;rfl
   |none=>
    rw[hx]at hi;simp only at hi ⊢;by_cases hl:j<s.heap.next
    ·rw[if_pos hl]at hi;cases hi
    ·rw[if_neg hl]at hi ⊢;injection hi with hi;injection hi with hi _;rw[hi]
  obtain⟨a,q1,q2,q3,q4,q5⟩:=q37 CY (k:=xk) ho EY (fun q n=>(leafY (hgx q)).2.1 0 n);exact⟨a,q1,q2,q3,q4,q5⟩
 ·obtain⟨h1,h2⟩:=outo hi;obtain⟨j,p⟩:=i;have hm:(H'.obj j).slot H'.len j p=.mp sb g':=hm;rw[objo h1 h2]at hm;obtain⟨q1,q2⟩:=qux (len:=s.heap.len) hm;refine⟨g',q1,fun key=>?_⟩;rcases q2 key with e|⟨y,e⟩
  ·exact .inl ⟨e,e⟩
  ·exact .inr ⟨_,_,e,e,fun v h=>CX.t y v h⟩
 ·obtain⟨e1,e2,_⟩:=nsome hi;obtain⟨j,p⟩:=i;obtain⟨xk,xp⟩:=x;simp only at e1 e2;subst e2;have hm:(H'.obj j).slot H'.len j xp=.mp sb g':=hm;rw[e1]at hm;obtain⟨N,g,m1,m2,m3⟩:=qlr hm;subst m2;have hO:Hl'.obj xk=.mp sb N g:=by
   cases hO:Hl'.obj xk<;>rw[hO]at m1<;>first|(cases m1;done)|(simp only[qrk]at m1;exact m1)
  refine⟨g',by show(Hl'.obj xk).slot _ _ _=_;rw[hO,m3];rfl,fun key=>?_⟩
  subst m3;dsimp only;split
  ·exact .inr ⟨_,_,rfl,rfl,fun v h=>h⟩
  ·exact .inl ⟨rfl,rfl⟩
theorem qwe{E:Env}{M:Id->Option Nat}{F:Nat->Prop}{s:ESt}{w:World}(r:qc4 E M F (toH s.heap) w)(hf:Fair s)(c:Ctr P){ks:List (Option Nat)}(hn:qqu ks=true)(hlt:qxy s.heap.next ks=true)
  (hq:q32 0 c.ar=true) (hd:qha c.os c.ro=true) {us:List EV} {x:DT c.ar} {y:DO c.os} (hx:exT ks (qdb us) c.ar=some x) (hy:qow ks s.heap c.os ks=some y) {res:c.rv.D×DO c.ro} (hF:c.F x y=some res)
  (hlen:qnx s.heap (mkH c.os.length c.ro res.2) ks 0=true) {cargs:Array Value} (hsz:c.ar.length=cargs.size) (ha:∀j,j<cargs.size->qay (toH s.heap) M F w (toV s.heap.len (qdb us j)) (cargs.getD j undef)) :
  Calls P c.f cargs w fun e w'=>∃cv ι' F',e=.returned cv/\qc4 E ι' F' (toH (qgj s.heap ks (mkH c.os.length c.ro res.2))) w' /\
   (∀u v,qfq (toH s.heap) (toV s.heap.len u)->qay (toH s.heap) M F w (toV s.heap.len u) v->qay (toH (qgj s.heap ks (mkH c.os.length c.ro res.2))) ι' F' w' (toV (qgj s.heap ks (mkH c.os.length c.ro res.2)).len (qa9 (qfn ks) u)) v) /\
   qay (toH (qgj s.heap ks (mkH c.os.length c.ro res.2))) ι' F' w' (toV (qgj s.heap ks (mkH c.os.length c.ro res.2)).len (qgq (qu6 ks s.heap.next) (mkE c.rv res.1))) cv/\(isNil c.os=true->Grown w w'):=by
 let Hl:=mkH c.os.length c.os y
 have pt:Part (toH s.heap) (toH Hl) (mK ks):=qjw hy hn;have hR:qik ks s.heap Hl (mK ks):=qgd hy;have r2:=pt.rel r;have hargs:∀j,j<(qc2 c.ar x).length->qay (toH Hl) (mι (mK ks) M) F w (toV Hl.len (qdb (qc2 c.ar x) j)) (cargs.getD j undef):=fun j hj=>by
  rw[qc0]at hj;rw[qir hq j,zg9];have:=qov (Z:=fun _=>False) hR c.ar x hx j _ _ _ _ _ r (ha j (by omega));rw[qkb]at this;exact this
 refine((c.ok x y res hF).out _ _ _ _ cargs r2 (by rw[qc0];exact hsz) hargs).mono fun e w' ⟨v,ι3,F3,Hx,cv,h1,r3,hv,h4,h5⟩=>?_
 subst h4;subst h5;obtain⟨ι',F',q1,q2,q3,q4⟩:=qso r hf c hn hlt hd hy hlen r3 hv;exact⟨cv,ι',F',h1,q1,q2,q3,q4⟩
end
end Go.Abs
namespace Go.Abs
open Go
variable {P:Program}
def T.ff:T->Prop
 |.sl _ n _=>n=0
 |.ifc _ x=>T.ff x
 |_=>True
def V.ff:V->Prop
 |.t x=>T.ff x
 |.fp _ _=>False
 |.agg n g=>∀j,j<n->V.ff (g j)
 |.tup n g=>∀j,j<n->V.ff (g j)
 |.fn _ n g=>∀j,j<n->V.ff (g j)
 |_=>True
theorem Reads.ff{F F':Nat->Prop}{w:World}:∀ {x:T} {v:Value},T.ff x->Reads F w x v->Reads F' w x v:=by
 intro x
 induction x with
 |any=>exact fun _ h=>h
 |bool b=>exact fun _ h=>h
 |int k n=>exact fun _ h=>h
 |str s=>exact fun _ h=>h
 |q4h=>exact fun _ h=>h
 |ifc t x ih=>rintro v hf ⟨c,h1,h2⟩;exact⟨c,h1,ih hf h2⟩
 |sl sz n get ih=>
  rintro v hf ⟨A,cap,h1,h2,h3,h4⟩
  have hf:n=0:=hf;exact⟨A,cap,h1,h2,h3,fun hn=>by omega⟩
theorem qay.ff{H:qbe}{M:Id->Option Nat}{F F':Nat->Prop}{w:World}:∀ {u:V} {v:Value},V.ff u->qay H M F w u v->qay H M F' w u v:=by
 intro u
 induction u with
 |t x=>exact fun hf h=>Reads.ff hf h
 |fp m g=>exact fun hf _=>hf.elim
 |agg n g ih=>rintro v hf ⟨cs,h1,h2,h3⟩;exact⟨cs,h1,h2,fun j hj=>by obtain⟨c,a,p,b⟩:=h3 j hj;exact⟨c,a,p,ih j (hf j hj) b⟩⟩
 |tup n g ih=>rintro v hf ⟨cs,h1,h2,h3⟩;exact⟨cs,h1,h2,fun j hj=>by obtain⟨c,a,b⟩:=h3 j hj;exact⟨c,a,ih j (hf j hj) b⟩⟩
 |fn f n g ih=>rintro v hf ⟨cs,h1,h2,h3⟩;exact⟨cs,h1,h2,fun j hj=>by obtain⟨c,a,b⟩:=h3 j hj;exact⟨c,a,ih j (hf j hj) b⟩⟩
 |_=>exact fun _ h=>h
structure qbe.ff(H:qbe):Prop where
 obj:∀i o,H.slot i=.live o->∀r,r<o.n->∀c,c<o.sz->V.ff (o.get r c)
 mp:∀i s g,H.slot i=.mp s g->∀k u,g k=some u->V.ff u
theorem qc4.qyb{w w':World}{Hl H':qbe}{ι' ι3:Id->Option Nat}{F F3 L:Nat->Prop}(r3:qc4 (qe6 w Hl ι' (fun b=>F b\/L b)) ι3 F3 H' w')(hFL:∀b,F b->¬ L b)(hF:∀b,F b->b<w.heap.size/\¬ qsy Hl ι' b)(hff:H'.ff) :
  qc4 (qe6 w Hl ι' F) ι3 (fun b=>F3 b/\¬ L b) H' w':=by
 have up:∀b,F b->F3 b/\¬ L b:=fun b hb=>by
  refine⟨?_,hFL b hb⟩;obtain⟨b',o',e1,e2,_⟩:=r3.ext (.fp 0 (fun _=>.any)) (.pointer (some ⟨b,0,none⟩)) ⟨b,0,rfl,.inl hb,fun j hj=>absurd hj (zhf _)⟩;injection e1 with e1;injection e1 with e1;injection e1 with e1;subst e1;exact e2
 have hw:∀b,F b->w'.heap[b]?=w.heap[b]?:=fun b hb=>r3.kept b (hF b hb).1 (hF b hb).2;refine⟨r3.os,r3.tape,r3.output,r3.size,r3.kept,fun i o h=>?_,fun i s g h=>?_,r3.inj,fun i b h hi hb=>r3.qto i b h hi hb.1,r3.own,r3.lt,fun b hb=>r3.qno b hb.1,fun b hb=>?_,r3.next,?_,r3.lo⟩
 ·obtain⟨h1,h2⟩:=r3.obj i o h;refine⟨h1,?_⟩;cases hk:ι3 i with
  |none=>rw[hk]at h2;exact h2
  |some b=>
   rw[hk]at h2;obtain⟨cur,g1,g2,g3⟩:=h2;exact⟨cur,g1,g2,fun r hr c hc=>by obtain⟨x,a,p,q⟩:=g3 r hr c hc;exact⟨x,a,p,qay.ff (hff.obj i o h r hr c hc) q⟩⟩
 ·obtain⟨b,es,clock,g1,g2,g3,g4⟩:=r3.qxx i s g h;refine⟨b,es,clock,g1,g2,g3,fun k hk=>?_⟩;have:=g4 k hk;cases hg:g k with
  |none=>rw[hg]at this;exact this
  |some u=>
   rw[hg]at this;obtain⟨n,e,a,b,c⟩:=this;exact⟨n,e,a,b,qay.ff (hff.mp i s g h k u hg) c⟩
 ·rcases r3.qxc b hb.1 with(h|h)|h|h
  ·exact .inl h
  ·exact absurd h hb.2
  ·exact .inr (.inl h)
  ·exact .inr (.inr h)
 ·show Ext (qit Hl) ι' F w H' ι3 (fun b=>F3 b/\¬ L b) w';intro u
  induction u with
  |un=>exact fun _ _=>trivial
  |und=>exact fun _ h=>h
  |t x=>exact fun v h=>Reads.mono up hw x v h
  |qby=>exact fun _ h=>h
  |qej=>exact fun _ h=>h
  |qek=>exact fun _ h=>h
  |qel=>exact fun _ h=>h
  |ptr id ver r c=>exact fun v h=>r3.ext (.ptr id ver r c) v h
  |qbq id ver r n=>exact fun v h=>r3.ext (.qbq id ver r n) v h
  |qcd id=>exact fun v h=>r3.ext (.qcd id) v h
  |fp m g=>
   rintro v ⟨b,o,h1,h2,h3⟩
   refine⟨b,o,h1,up b h2,fun j hj=>?_⟩;obtain⟨c,hc1,hc2⟩:=h3 j hj;refine⟨c,?_,Reads.mono up hw _ _ hc2⟩;unfold World.cell? at hc1 ⊢;simp only at hc1 ⊢;rw[hw b h2];exact hc1
  |fn f n cap ih=>rintro v ⟨cs,h1,h2,h3⟩;exact⟨cs,h1,h2,fun j hj=>by obtain⟨c,a,b⟩:=h3 j hj;exact⟨c,a,ih j _ b⟩⟩
  |agg n get ih=>rintro v ⟨cs,h1,h2,h3⟩;exact⟨cs,h1,h2,fun j hj=>by obtain⟨c,a,p,b⟩:=h3 j hj;exact⟨c,a,p,ih j _ b⟩⟩
  |tup n get ih=>rintro v ⟨cs,h1,h2,h3⟩;exact⟨cs,h1,h2,fun j hj=>by obtain⟨c,a,b⟩:=h3 j hj;exact⟨c,a,ih j _ b⟩⟩
section
variable [SU] [qa2]
def qhe(N τ':Ty)(f:N.D->τ'.D):Prop:=∀(H:qad) (id:Nat) (p:List Nat) (e:TypeId) (l:List N.D),H.at id p=some ⟨e,N,l⟩->∀(E:Env) (M:Id->Option Nat) (F:Nat->Prop) (w:World) (v:Value),qc4 E M F (toH H) w ->
 qay (toH H) M F w (.qbq ⟨id,p⟩ 0 0 l.length) v->Reads (fun b=>F b\/∃q,((toH H).slot ⟨id,q⟩).is/\M ⟨id,q⟩=some b) w (qx0 τ' (l.map f)) v
theorem qhe.of{N τ':Ty}{f:N.D->τ'.D}(hsz:τ'.sz=N.sz) (hc:∀x c,c<N.sz->(∃u,qam N x c=.ev u/\∀len,toV len u=.t (qj6 τ' (f x) c)) \/
  ∃t e l e' g,qam N x c=.own t e l/\qhe e e' g/\qj6 τ' (f x) c=qx0 e' (l.map g)):qhe N τ' f:=by
 intro H id p e l hat E M F w v r ⟨h0,h1⟩;have hlive:=qb3 hat;rw[hlive]at h1;obtain⟨hn,A,cap,g1,g2,g3⟩:=h1.2 rfl;obtain⟨o1,o2⟩:=r.obj _ _ hlive;refine⟨A,cap,by rw[zha];exact g1,by rw[zha];exact g2,by rw[zha];exact o1,fun hpos=>?_⟩
 rw[zha]at hpos;obtain⟨b,cur,p1,p2,p3,p4⟩:=g3 (by omega);rw[p1]at o2;obtain⟨cur',q1,q2,q3⟩:=o2;rw[p3]at q1;injection q1 with q1;injection q1 with q1;subst q1;refine⟨b,0,by rw[p2,Nat.zero_mul],.inr ⟨p,by rw[hlive];trivial,p1⟩,fun i hi j hj=>?_⟩
 rw[zha]at hi;rw[hsz]at hj;obtain⟨c',r1,r2,r3⟩:=q3 i hi j hj;refine⟨c',?_,?_⟩
 ·rw[zg9,hsz];simp[World.cell?,p3];exact r1
 ·have er:(l.map f).getD i τ'.z=f (l.getD i N.z):=by simp[zg0,hi]
  show Reads _ w (qj6 τ' ((l.map f).getD i τ'.z) j) c';rw[er];have r3:qay (toH H) M F w (qbd H.len id p i j (qam N (l.getD i N.z) j)) c':=r3;rcases hc (l.getD i N.z) j hj with⟨u,e1,e2⟩|⟨t,e',l',τ2,g,e1,e2,e3⟩
  ·rw[e1]at r3;simp only[qbd]at r3;rw[e2]at r3;exact Reads.mono (fun b hb=>.inl hb) (fun _ _=>rfl) _ _ r3
  ·rw[e1]at r3;have hk:H.at id (p++[j,i])=some ⟨t,e',l'⟩:=by
    rw[qad.qbv hat,LV.at_one];exact LV.qd8 e1
   rw[e3];exact e2 H id (p++[j,i]) t l' hk E M F w c' r r3
theorem qhe.fro{N:Ty}(h:qj2 N=true):qhe N N (fun x=>x):=qhe.of rfl fun x c hc=>by
 obtain⟨u,e1,e2⟩:=qdt N x c h;exact .inl ⟨u,e1,fun len=>e2 hc len⟩
structure zga(i:Nat) where
 j:Nat
 f:SU.D i->SU.D j
def Sp.q6q{α β:Type}(g:α->Option β):List α->Option (List β)
 |[]=>some []
 |a::l=>match g a with
  |some b=>match Sp.q6q g l with
   |some m=>some (b::m)
   |none=>none
  |none=>none
theorem q0h{α β:Type}{g:α->Option β}{f:β->α}(h:∀x y,g x=some y->f y=x):∀(l:List α) (m:List β),Sp.q6q g l=some m->m.map f=l
 |[],m,e=>by injection e with e;subst e;rfl
 |a::l,m,e=>by
  unfold Sp.q6q at e;split at e
  ·rename_i b hb;split at e
   ·rename_i m' hm;injection e with e;subst e;rw[zhg,h _ _ hb,q0h h l m' hm]
   ·cases e
  ·cases e
class qxv where
 d:(i:Nat)->Option (zga i)
 ok:∀i x,d i=some x->qhe (.st i) (.st x.j) x.f
 dn:(i j:Nat)->Option (SU.D i->Option (SU.D j))
 zcu:∀i j g,dn i j=some g->∃f,qa2.upF j i=some f/\∀x y,g x=some y->f y=x
variable [qxv]
def zcy(v:LV):EV:=match v with
 | ⟨_,.st i,l⟩=>bif qa2.fro i then .fz (.st i) l else(match qxv.d i with
  |some x=>.fz (.st x.j) (l.map x.f)
  | none=>.un)
 |⟨_,N,l⟩=>bif qj2 N then .fz N l else .un
theorem q1r{H:qad}{id:Nat}{p:List Nat}{v:LV}(hat:H.at id p=some v){E:Env}{M:Id->Option Nat}{F:Nat->Prop}{w:World}{c:Value}(r:qc4 E M F (toH H) w)
  (h:qay (toH H) M F w (.qbq ⟨id,p⟩ 0 0 v.l.length) c) {len:Len} {H':qbe} {ι':Id->Option Nat} {F':Nat->Prop} (hF:∀b,(F b\/∃q,((toH H).slot ⟨id,q⟩).is/\M ⟨id,q⟩=some b)->F' b):qay H' ι' F' w (toV len (zcy v)) c:=by
 have key:∀ {N τ':Ty} {f:N.D->τ'.D} {e:TypeId} {l:List N.D},qhe N τ' f->H.at id p=some ⟨e,N,l⟩->qay (toH H) M F w (.qbq ⟨id,p⟩ 0 0 l.length) c->qay H' ι' F' w (toV len (.fz τ' (l.map f))) c:=fun hd ha hv=>by
  simp only[toV];exact Reads.mono hF (fun _ _=>rfl) _ _ (hd H id p _ _ ha E M F w c r hv)
 have flat:∀ {N:Ty} {e:TypeId} {l:List N.D},H.at id p=some ⟨e,N,l⟩->qay (toH H) M F w (.qbq ⟨id,p⟩ 0 0 l.length) c->qay H' ι' F' w (toV len (bif qj2 N then .fz N l else .un)) c:=fun {N e l} ha hv=>by
  cases hf:qj2 N with
  |false=>simp only[cond_false,toV];exact trivial
  |true=>
   have:=key (f:=fun x=>x) (qhe.fro hf) ha hv;rw[List.map_id']at this;simp only[cond_true];exact this
 obtain⟨e,N,l⟩:=v;cases N with
 |st i=>
  simp only[zcy];cases hf:qa2.fro i with
  |true=>
   have:=flat hat h;have hf':qj2 (.st i)=true:=hf;rw[hf']at this;exact this
  |false=>
   simp only[cond_false];cases hd:qxv.d i with
   |none=>simp only[toV];exact trivial
   |some x=>exact key (qxv.ok i x hd) hat h
 |bool=>exact flat hat h
 |int k=>exact flat hat h
 |str=>exact flat hat h
 |sl e'=>exact flat hat h
 |ol t e'=>exact flat hat h
def qh9(H:qad)(ks:List (Option Nat)):Nat->List Nat->Option EV:=fun id p=>match ixK ks id with
 |some _=>none
 | none=>some (match H.at id p with
  |some v=>zcy v
  | none=>.un)
def qf0(H:qad)(ks:List (Option Nat)):qad:={ next:=H.next,lo:=H.lo,md:=H.md,obj:=fun j=>match ixK ks j with
 |some _=>qbw (qh9 H ks) (H.obj j)
 | none=>bif Nat.blt j H.next then .dead else .none }
def qtr(ks:List (Option Nat)):Id->Option Id:=fun i=>match ixK ks i.k with
 |some _=>some i
 |none=>none
def q4t(ks:List (Option Nat)):Id->Prop:=fun i=>ixK ks i.k=none
theorem qoo{s:ESt}(hf:Fair s)(ks:List (Option Nat)):qbm (qh9 s.heap ks) s.heap (toH s.heap) (qf0 s.heap ks) (qtr ks) (q4t ks):=by
 have hobj:∀j i,ixK ks j=some i->(qf0 s.heap ks).obj j=qbw (qh9 s.heap ks) (s.heap.obj j):=fun j i h=>by simp only[qf0,h]
 refine⟨fun id p u h=>?_,fun id p h hb=>?_,fun id p h hb=>?_⟩
 ·simp only[qh9]at h;cases hx:ixK ks id with
  |some i=>rw[hx]at h;cases h
  |none=>
   rw[hx]at h;injection h with h;cases hat:s.heap.at id p with
   |none=>rw[hat]at h;subst h;simp only[toV];exact KG.un
   |some v=>
    rw[hat]at h;subst h;intro E M F w c r hv;simp only[toV,qad.qf1 hat]at hv;exact q1r hat r hv (fun b hb=>hb.imp (fun h=>h) fun⟨q,q1,q2⟩=>⟨⟨id,q⟩,hx,q1,q2⟩)
 ·simp only[qh9]at h;cases hx:ixK ks id with
  |none=>rw[hx]at h;cases h
  |some i=>
   refine .inr ⟨?_,by simp only[qtr,hx]⟩;show qaz _ (((qf0 s.heap ks).obj id).slot _ id p);rw[hobj id i hx];exact qb7 hb
 ·simp only[qh9]at h;cases hx:ixK ks id with
  |none=>rw[hx]at h;cases h
  |some i=>exact qad.qdn (hobj id i hx) p
theorem q4v{s:ESt}(hf:Fair s)(ks:List (Option Nat)):Gen (toH s.heap) (toH (qf0 s.heap ks)) (qtr ks) (q4t ks):=by
 have hobj:∀j i,ixK ks j=some i->(qf0 s.heap ks).obj j=qbw (qh9 s.heap ks) (s.heap.obj j):=fun j i h=>by simp only[qf0,h]
 have hno:∀j p,ixK ks j=none->((toH (qf0 s.heap ks)).slot ⟨j,p⟩=.dead)\/((toH (qf0 s.heap ks)).slot ⟨j,p⟩=.qae/\s.heap.next<=j):=fun j p h=>by
  show((qf0 s.heap ks).obj j).slot _ j p=.dead\/(((qf0 s.heap ks).obj j).slot _ j p=.qae/\_)
  simp only[qf0,h];by_cases hl:j<s.heap.next
  ·rw[qdc hl];exact .inl rfl
  ·rw[qdv (zhz hl)];exact .inr ⟨rfl,zhz hl⟩
 refine Gen.qa9 (fun j=>ixK ks j=none) (qoo hf ks) hf.obj (fun j hj=>?_) (fun i hi o' ho'=>?_) (fun i hi sb g' hm=>?_) (fun i j x hi h1' h2' e1 e2=>?_) rfl (fun i hi=>?_) (fun i hi hil hip=>?_)
 ·cases hx:ixK ks j with
  |none=>exact absurd hx hj
  |some i=>exact⟨fun p=>by simp only[qh9,hx],hobj j i hx,fun p=>by simp only[qtr,hx],fun p h=>(by have h:ixK ks j=none:=h;rw[hx]at h;cases h),fun p=>rfl⟩
 ·obtain⟨j,p⟩:=i;rcases hno j p hi with h|⟨h,_⟩<;>rw[h]at ho'<;>cases ho'
 ·obtain⟨j,p⟩:=i;rcases hno j p hi with h|⟨h,_⟩<;>rw[h]at hm<;>cases hm
 ·obtain⟨j',p⟩:=i;rcases hno j' p hi with h|⟨h,_⟩<;>rw[h]at h1'<;>exact h1'.elim
 ·obtain⟨j,p⟩:=i;have hi:s.heap.next<=j:=hi;cases hx:ixK ks j with
  |none=>
   rcases hno j p hx with h|⟨h,_⟩
   ·exfalso;have h:((qf0 s.heap ks).obj j).slot _ j p=.dead:=h;simp only[qf0,hx]at h;rw[qdv hi]at h;cases h
   ·exact h
  |some x=>
   show((qf0 s.heap ks).obj j).slot _ j p=.qae;rw[hobj j x hx,qcm (len:=s.heap.len)];exact hf.next ⟨j,p⟩ hi
 ·obtain⟨j,p⟩:=i;rcases hno j p hi with h|⟨h,h2⟩
  ·exact .inr (.inl h)
  ·exact .inl (hf.next ⟨j,p⟩ h2)
theorem q8t{M:Id->Option Nat}{ks:List (Option Nat)}(hn:qqu ks=true):mι (mK ks) (mι (qtr ks) M)=mι (mK ks) M:=by
 funext i;unfold mι mK;cases h:qhz ks i.k with
 |none=>rfl
 |some k=>
  simp only[qtr];rw[q6v hn h]
structure zf9(rv:Sh)(ro:List OSh)(n:Nat)(r:rv.D×DO ro):Prop where
 v:V.ff (toV (mkH n ro r.2).len (mkE rv r.1))
 h:qbe.ff (toH (mkH n ro r.2))
theorem q4u{E:Env}{M:Id->Option Nat}{F:Nat->Prop}{s:ESt}{w:World}(r:qc4 E M F (toH s.heap) w)(hf:Fair s)(c:Ctr P){ks:List (Option Nat)}(hn:qqu ks=true)(hlt:qxy s.heap.next ks=true)
  (hq:q32 0 c.ar=true) (hd:qha c.os c.ro=true) {us:List EV} {x:DT c.ar} {y:DO c.os} (hx:exT ks (qdb (qbz (qh9 s.heap ks) us)) c.ar=some x) (hy:qow ks s.heap c.os ks=some y) (hyk:qow ks (qf0 s.heap ks) c.os ks=some y)
  {res:c.rv.D×DO c.ro} (hF:c.F x y=some res) (hff:zf9 c.rv c.ro c.os.length res)
  (hlen:qnx s.heap (mkH c.os.length c.ro res.2) ks 0=true) {cargs:Array Value} (hsz:c.ar.length=cargs.size) (ha:∀j,j<cargs.size->qfq (toH s.heap) (toV s.heap.len (qdb us j))/\qay (toH s.heap) M F w (toV s.heap.len (qdb us j)) (cargs.getD j undef)) :
  Calls P c.f cargs w fun e w'=>∃cv ι' F',e=.returned cv/\qc4 E ι' F' (toH (qgj s.heap ks (mkH c.os.length c.ro res.2))) w' /\
   (∀u v,qfq (toH s.heap) (toV s.heap.len u)->qay (toH s.heap) M F w (toV s.heap.len u) v->qay (toH (qgj s.heap ks (mkH c.os.length c.ro res.2))) ι' F' w' (toV (qgj s.heap ks (mkH c.os.length c.ro res.2)).len (qa9 (qfn ks) u)) v) /\
   qay (toH (qgj s.heap ks (mkH c.os.length c.ro res.2))) ι' F' w' (toV (qgj s.heap ks (mkH c.os.length c.ro res.2)).len (qgq (qu6 ks s.heap.next) (mkE c.rv res.1))) cv/\(isNil c.os=true->Grown w w'):=by
 let Hl:=mkH c.os.length c.os y
 have sc:=qoo hf ks;have rk:=Gen.rel r (q4v hf ks);have pk:Part (toH (qf0 s.heap ks)) (toH Hl) (mK ks):=qjw hyk hn;have hR:qik ks (qf0 s.heap ks) Hl (mK ks):=qgd hyk;have pt:Part (toH s.heap) (toH Hl) (mK ks):=qjw hy hn;have r2:=pk.rel rk;have r20:=pt.rel r;have hargs:∀j,j<(qc2 c.ar x).length->qay (toH Hl) (mι (mK ks) (mι (qtr ks) M)) (FZ (toH s.heap) M (q4t ks) F) w (toV Hl.len (qdb (qc2 c.ar x) j)) (cargs.getD j undef):=fun j hj=>by
  rw[qc0]at hj;rw[qir hq j,zg9];obtain⟨hb,hv⟩:=ha j (by omega);have e:qdb (qbz (qh9 s.heap ks) us) j=qa9 (qh9 s.heap ks) (qdb us j):=by
   have:∀(l:List EV) (j:Nat),qdb (qbz (qh9 s.heap ks) l) j=qa9 (qh9 s.heap ks) (qdb l j):=by
    intro l
    induction l with
    |nil=>intro j;simp[qbz,qdb,qa9]
    |cons a l ih=>intro j;cases j with
     |zero=>simp[qbz,qdb]
     |succ j=>simpa[qbz,qdb]using ih j
   exact this us j
  have h1:=sc.keeps (qdb us j) hb E M F w _ r hv;rw[<- e]at h1;have:=qov (Z:=fun _=>False) hR c.ar x hx j _ _ _ _ _ rk h1;rw[qkb]at this;exact this
 refine((c.ok x y res hF).out _ _ _ _ cargs r2 (by rw[qc0];exact hsz) hargs).mono fun e w' ⟨v,ι3,F3,Hx,cv,h1,r3,hv,h4,h5⟩=>?_
 subst h4;subst h5;have r3:qc4 (qe6 w (toH Hl) (mι (mK ks) M) (fun b=>F b\/∃i,q4t ks i/\((toH s.heap).slot i).is/\M i=some b)) ι3 F3 (toH (mkH c.os.length c.ro res.2)) w':=by
  have:=r3;rw[q8t hn]at this;exact this
 have r3':=r3.qyb (fun b hb ⟨i,_,hi,hib⟩=>r.qto i b hi hib hb) (fun b hb=>⟨r.qno b hb,fun⟨i,hi,hib⟩=>r20.qto i b hi hib hb⟩) hff.h;obtain⟨ι',F',q1,q2,q3,q4⟩:=qso r hf c hn hlt hd hy hlen r3' (qay.ff hff.v hv);exact⟨cv,ι',F',h1,q1,q2,q3,q4⟩
class FFs where
 st:Nat->Bool
 ok:∀i,st i=true->qa2.fro i=true/\∀(x:SU.D i) c,c<SU.sz i->T.ff (SU.enc i x c)
variable [FFs]
def qxe:Ty->Bool
 |.bool=>true
 |.int _=>true
 |.str=>true
 |.st i=>FFs.st i
 |.sl _=>false
 |.ol _ e=>qxe e
def q46:Sh->Bool
 |.un=>true
 |.b=>true
 |.i _=>true
 |.s=>true
 |.fz _=>false
 |.st n=>FFs.st n
 |.fp _ _=>false
 |.qby=>true
 |.qej=>true
 |.qek=>true
 |.qel=>true
 |.qji=>true
 |.ptr _ _=>true
 |.q2n _ _=>true
 |.part _=>true
 |.full _=>true
 |.qcd _=>true
 |.agg l=>qse l
 |.tup l=>qse l
 |.fn _ l=>qse l
where qse:List Sh->Bool
 |[]=>true
 |a::l=>q46 a&&qse l
theorem q45{N:Ty}(h:qxe N=true){x:N.D}{c:Nat}{t:TypeId}{e:Ty}{l:List e.D}(hc:qam N x c=.own t e l):qxe e=true:=by
 cases N with
 |st i=>obtain⟨u,e1,_⟩:=qa2.qed i x c (FFs.ok i h).1;simp only[qam]at hc;rw[e1]at hc;cases hc
 |ol t' e'=>cases c with
  |zero=>simp only[qam]at hc;injection hc with h1 h2;subst h2;exact h
  |succ c=>cases hc
 |bool=>cases c<;>cases hc
 |int k=>cases c<;>cases hc
 |str=>cases c<;>cases hc
 |sl e'=>cases h
theorem q1d{N:Ty}(h:qxe N=true){x:N.D}{c:Nat}{u:EV}(hs:c<N.sz)(hc:qam N x c=.ev u)(len:Len):V.ff (toV len u):=by
 cases N with
 |st i=>
  obtain⟨h1,h2⟩:=FFs.ok i h;obtain⟨u',e1,e2⟩:=qa2.qed i x c h1;simp only[qam]at hc;rw[e1]at hc;injection hc with hc;subst hc;rw[e2 hs];exact h2 x c hs
 |ol t' e'=>cases c with
  |zero=>cases hc
  |succ c=>injection hc with hc;subst hc;simp only[toV];trivial
 |bool=>cases c<;>(injection hc with hc;subst hc;simp only[toV];trivial)
 |int k=>cases c<;>(injection hc with hc;subst hc;simp only[toV];trivial)
 |str=>cases c<;>(injection hc with hc;subst hc;simp only[toV];trivial)
 |sl e'=>cases h
theorem q1e:∀(p:List Nat) (v a:LV),qxe v.N=true->v.at p=some a->qxe a.N=true
 |[],v,a,h,ha=>by rw[LV.qa6]at ha;injection ha with ha;exact ha▸h
 |[_],v,a,h,ha=>by rw[LV.qfi]at ha;cases ha
 |c::r::p,v,a,h,ha=>by
  rw[LV.qbu]at ha;cases hk:v.kid c r with
  |none=>rw[hk]at ha;cases ha
  |some k=>rw[hk]at ha;exact q1e p k a (q45 h (LV.qgh hk)) ha
def LV.ffP(v:LV):Prop:=∀p a,v.at p=some a->∀r,r<a.l.length->∀c,c<a.N.sz->∀u,qam a.N (a.row r) c=.ev u->∀len,V.ff (toV len u)
theorem LV.q1g{v:LV}(h:∀r,r<v.l.length->∀c,(c<v.N.sz->∀u,qam v.N (v.row r) c=.ev u->∀len,V.ff (toV len u))/\∀t e l,qam v.N (v.row r) c=.own t e l->LV.ffP ⟨t,e,l⟩):v.ffP
 |[],a,ha=>by rw[LV.qa6]at ha;injection ha with ha;subst ha;exact fun r hr c hc=>(h r hr c).1 hc
 |[_],a,ha=>by rw[LV.qfi]at ha;cases ha
 |c::r::p,a,ha=>by
  rw[LV.qbu]at ha;cases hk:v.kid c r with
  |none=>rw[hk]at ha;cases ha
  |some k=>
   rw[hk]at ha;by_cases hr:r<v.l.length
   ·exact(h r hr c).2 _ _ _ (LV.qgh hk) p a ha
   ·have hkc:=LV.qgh hk;have e:v.row r=v.N.z:=by unfold LV.row;rw[zg0,ziw (by omega)];rfl
    rw[e]at hkc;have hz:=qn0 _ _ _ _ _ hkc;have:=LV.qgl p k a hz ha;intro r' hr';rw[this]at hr';simp at hr'
theorem qqf{v:LV}(h:qxe v.N=true):v.ffP:=fun p a ha r hr c hc u hu len=>q1d (q1e p v a h ha) hc hu len
mutual
theorem q1f(len:Len):∀(a:Sh) (x:a.D),q46 a=true->V.ff (toV len (mkE a x))
 |.un,_,_=>by simp only[mkE,toV];trivial
 |.b,_,_=>by simp only[mkE,toV];trivial
 |.i _,_,_=>by simp only[mkE,toV];trivial
 |.s,_,_=>by simp only[mkE,toV];trivial
 |.fz _,_,h=>by cases h
 |.st n,x,h=>by simp only[mkE,toV];exact fun j hj=>(FFs.ok n h).2 x j hj
 |.fp _ _,_,h=>by cases h
 |.qby,_,_=>by simp only[mkE,toV];trivial
 |.qej,_,_=>by simp only[mkE,toV];trivial
 |.qek,_,_=>by simp only[mkE,toV];trivial
 |.qel,_,_=>by simp only[mkE,toV];trivial
 |.qji,_,_=>by simp only[mkE,toV];trivial
 |.ptr _ _,_,_=>by simp only[mkE,toV];trivial
 |.q2n _ _,_,_=>by simp only[mkE,toV];trivial
 |.part _,_,_=>by simp only[mkE,toV];trivial
 |.full id,_,_=>by
  simp only[mkE,toV]
  split<;>trivial
 |.qcd _,_,_=>by simp only[mkE,toV];trivial
 |.agg l,x,h=>by simp only[mkE,toV];exact fun j _=>qi7 len l x h j
 |.tup l,x,h=>by simp only[mkE,toV];exact fun j _=>qi7 len l x h j
 |.fn _ l,x,h=>by simp only[mkE,toV];exact fun j _=>qi7 len l x h j
theorem qi7(len:Len):∀(l:List Sh) (x:DS l),q46.qse l=true->∀j,V.ff (qa3 len (qnt l x) j)
 |[],_,_,j=>by simp only[qnt,qa3];trivial
 |a::l,x,h,j=>by
  simp only[q46.qse,zgz]at h;cases j with
  |zero=>simp only[qnt,qa3];exact q1f len a x.1 h.1
  |succ j=>simp only[qnt,qa3];exact qi7 len l x.2 h.2 j
end
def OD.ffP(o:OD):Prop:=∀len k p,(∀a,o.slot len k p=.live a->∀r,r<a.n->∀c,c<a.sz->V.ff (a.get r c))/\∀s g,o.slot len k p=.mp s g->∀x u,g x=some u->V.ff u
theorem LV.ffO{v:LV}(h:v.ffP):OD.ffP (.lst v):=fun len k p=>by
 refine⟨fun a ha r hr c hc=>?_,fun s g hg=>?_⟩
 ·simp only[OD.slot]at ha;cases hv:v.at p with
  |none=>rw[hv]at ha;cases ha
  |some b=>
   rw[hv]at ha;injection ha with ha;subst ha;show V.ff (qbd len k p r c (qam b.N (b.row r) c));cases hcc:qam b.N (b.row r) c with
   |ev u=>exact h p b hv r hr c hc u hcc len
   |own t e l=>trivial
 ·simp only[OD.slot]at hg;cases hv:v.at p<;>rw[hv]at hg<;>cases hg
section
open Classical
variable {ρ:Type}
noncomputable def ffK:(ro:List OSh)->DO ro->Option ρ->Option ρ
 |[],_,K=>K
 |.dead::l,y,K=>ffK l y.2 K
 |.lst e N::l,y,K=>bif qxe N then ffK l y.2 K else grd (okB (LV.ffP ⟨e,N,y.1⟩)) (ffK l y.2 K)
 |.box e N::l,y,K=>bif qxe N then ffK l y.2 K else grd (okB (LV.ffP ⟨e,N,[y.1]⟩)) (ffK l y.2 K)
 |.cells _ m::l,y,K=>bif q46.qse m then ffK l y.2 K else none
 |.mp _ N::l,y,K=>bif(qxe N&&qj2 N)&&Nat.blt 0 N.sz then ffK l y.2 K else none
theorem q1j{K:Option ρ}{res:ρ}:∀(ro:List OSh) (y:DO ro),ffK ro y K=some res->(∀j,OD.ffP (mkObj ro y j))/\K=some res
 |[],y,h=>⟨fun j len k p=>⟨fun a ha=>(by cases j<;>cases ha),fun s g hg=>(by cases j<;>cases hg)⟩,h⟩
 |o::l,y,h=>by
  have step:OD.ffP (mkO o y.1)->ffK l y.2 K=some res->(∀j,OD.ffP (mkObj (o::l) y j))/\K=some res:=fun h1 h2=>by
   obtain⟨a,b⟩:=q1j l y.2 h2;exact⟨fun j=>by cases j with
    |zero=>exact h1
    | succ j=>exact a j,b⟩
  cases o with
  |dead=>exact step (fun len k p=>⟨fun a ha=>(by cases ha),fun s g hg=>(by cases hg)⟩) h
  |lst e N=>
   unfold ffK at h;cases hb:qxe N with
   |true=>rw[hb]at h;exact step (LV.ffO (qqf hb)) h
   |false=>
    rw[hb]at h;simp only[cond_false]at h;obtain⟨h1,h2⟩:=qbs h;exact step (LV.ffO (qc5 h1)) h2
  |box e N=>
   unfold ffK at h;cases hb:qxe N with
   |true=>rw[hb]at h;exact step (LV.ffO (qqf hb)) h
   |false=>
    rw[hb]at h;simp only[cond_false]at h;obtain⟨h1,h2⟩:=qbs h;exact step (LV.ffO (qc5 h1)) h2
  |cells e m=>
   unfold ffK at h;obtain⟨hb,h⟩:=qaf h;refine step (fun len k p=>⟨fun a ha r hr c hc=>?_,fun s g hg=>?_⟩) h
   ·cases p with
    |nil=>injection ha with ha;subst ha;exact qi7 len m y.1 hb c
    |cons _ _=>cases ha
   ·cases p<;>cases hg
  |mp s N=>
   unfold ffK at h;obtain⟨hb,h⟩:=qaf h;simp only[zgz]at hb;refine step (fun len k p=>⟨fun a ha=>?_,fun s g hg x u hu=>?_⟩) h
   ·cases p<;>cases ha
   ·cases p with
    |cons _ _=>cases hg
    |nil=>
     injection hg with h1 h2;subst h2;dsimp only at hu;split at hu
     ·rename_i z hz;injection hu with hu;subst hu;obtain⟨u',e1,e2⟩:=qdt N z 0 hb.1.2;have hs:0<N.sz:=zg4 hb.2;have:=q1d hb.1.1 hs e1 (fun _ _=>Option.none);rw[e2 hs]at this;exact this
     ·cases hu
theorem zcq{rv:Sh}{ro:List OSh}{n:Nat}{r:rv.D×DO ro}(hv:q46 rv=true)(h:∀j,OD.ffP (mkObj ro r.2 j)):zf9 rv ro n r:=
 ⟨q1f _ _ _ hv,⟨fun i o ho=>(h i.k _ _ _).1 o ho,fun i s g hg=>(h i.k _ _ _).2 s g hg⟩⟩
end
end
end Go.Abs
namespace Go.Abs
open Go
variable {P:Program} {Q:Exit->St->Prop} {st:St} {L:List GOp} {d:Option Tmp} {ty:TypeId}
theorem O.makeFunc{f:FuncId}{caps:Array Operand}:QV P ⟨d,.makeFunc (.func f) #[] caps,ty,none⟩ (.fn f caps.size (fun j=>st.eval (caps.getD j (.func 0)))) st:=fun E M F a w r=>
 ⟨.func (.func f) #[] (caps.map a.eval),by simp[execOp,GOp.oper,Instr.makeFunc],_,rfl,by simp,fun j hj=>⟨a.eval (caps.getD j (.func 0)),by simp[hj,Array.getD],r.eval _⟩⟩
def qbe.zbp(H:qbe)(id:Id)(s:Bool)(g:qce->Option V):qbe:={ H with slot:=fun i=>bif Id.beq i id then .mp s g else H.slot i }
def qbe.q9w(H:qbe)(s:Bool)(g:qce->Option V):qbe:={ next:=H.next+1,slot:=fun i=>bif Id.beq i ⟨H.next,[]⟩then .mp s g else H.slot i,lo:=H.lo }
def qxu(H:qbe)(M:Id->Option Nat)(F:Nat->Prop)(w:World)(s:Bool)(g:qce->Option V)(es:Array MapEntry):Prop:=
 (∀e∈es.toList,∃k:qce,k.isS=s/\e.key=k.val) /\
  ∀k:qce,k.isS=s->match g k with
   |none=>∀e∈es.toList,e.key≠k.val
   |some u=>∃(i:Nat) (e:MapEntry),es[i]?=some e/\(e.key=k.val/\∀j,j<i->∀e',es[j]?=some e'->e'.key≠k.val)/\qay H M F w u e.val
theorem qxu.ext{H H':qbe}{M ι':Id->Option Nat}{F F':Nat->Prop}{w w':World}{s:Bool}{g:qce->Option V}{es:Array MapEntry}(h:qxu H M F w s g es)(x:Ext H M F w H' ι' F' w'):qxu H' ι' F' w' s g es:=by
 refine⟨h.1,fun k hk=>?_⟩;have:=h.2 k hk;cases hg:g k with
 |none=>rw[hg]at this;exact this
 |some u=>rw[hg]at this;obtain⟨i,e,a,b,c⟩:=this;exact⟨i,e,a,b,x _ _ c⟩
theorem qc4.zbm{E:Env}{M:Id->Option Nat}{F:Nat->Prop}{H:qbe}{w:World}(r:qc4 E M F H w)(id:Id)(b:Nat)(s:Bool)(g:qce->Option V)(es':Array MapEntry)(clock':Nat)(w':World)(H':qbe)
  (hH:∀i,H'.slot i=if i=id then .mp s g else H.slot i) (hn:∀i,H'.next<=i.k->i≠id/\H.next<=i.k) (hlo:H'.lo=H.lo)
  (hos:w'.os=w.os) (htape:w'.tape=w.tape) (hout:w'.output=w.output) (hsz:w.heap.size<=w'.heap.size) (hoth:∀k,k≠b->k<w.heap.size->w'.heap[k]?=w.heap[k]?)
  (hb':w'.heap[b]?=some (.map es' clock'))
  (hfresh:b=w.heap.size\/(M id=some b/\(H.slot id).is))
  (hmap:qxu H M F w s g es')
  (hslot:match H.slot id with
   |.qae=>True
   |.mp _ _=>M id=some b
   | _=>False) :
  qc4 E (upd M id b) F H' w'/\Ext H M F w H' (upd M id b) F w':=by
 have hbF:¬ F b:=by
  rcases hfresh with h|⟨h1,h2⟩
  ·intro hf;have:=r.qno b hf;omega
  ·exact r.qto id b h2 h1
 have hF:∀k,F k->w'.heap[k]?=w.heap[k]?:=fun k hk=>hoth k (fun e=>hbF (e▸hk)) (r.qno k hk);have hne:∀i k,i≠id->(H.slot i).is->M i=some k->k≠b:=by
  intro i k hi hl hk e;subst e;rcases hfresh with h|⟨h1,h2⟩
  ·have:=r.lt i k hl hk;omega
  ·exact hi (r.inj i id k hl h2 hk h1)
 have ho:∀i k,i≠id->(H.slot i).is->M i=some k->w'.heap[k]?=w.heap[k]?:=fun i k hi hl hk=>hoth k (hne i k hi hl hk) (r.lt i k hl hk);have hx:Ext H M F w H' (upd M id b) F w':=by
  refine Ext.of (fun _ h=>h) hF fun i=>?_;unfold qf5;by_cases hi:i=id
  ·subst hi;rw[hH,if_pos rfl];cases hs:H.slot i with
   |qae=>trivial
   |dead=>rw[hs]at hslot;exact hslot.elim
   |live o=>rw[hs]at hslot;exact hslot.elim
   |mp s0 g0=>
    rw[hs]at hslot;exact .inr ⟨⟨s,g,rfl⟩,by simp only[upd,if_true];exact hslot.symm⟩
  ·rw[hH,if_neg hi];cases hs:H.slot i with
   |qae=>trivial
   |dead=>rfl
   |mp s g=>exact .inr ⟨⟨s,g,rfl⟩,by simp[upd,hi]⟩
   |live o=>
    refine .inr ⟨o,rfl,zg3 _,fun _=>⟨rfl,rfl,zg3 _,by simp[upd,hi],fun b0 cur hb0 hcur=>⟨cur,?_,rfl⟩⟩⟩;rw[ho i b0 hi (by rw[hs];trivial) hb0];exact hcur
 have hid:(H'.slot id)=.mp s g:=by rw[hH,if_pos rfl]
 have hwas:∀i,i≠id->(H'.slot i).is->(H.slot i).is:=fun i hi h=>by rw[hH,if_neg hi]at h;exact h
 have hι:∀i,i≠id->upd M id b i=M i:=fun i hi=>by simp[upd,hi]
 have hιd:upd M id b id=some b:=by simp[upd]
 have hblt:b<w'.heap.size:=(zic.1 hb').1;refine⟨⟨hos.trans r.os,htape.trans r.tape,hout.trans r.output,zhy r.size hsz,fun k hk hW=>?_,fun i o hi=>?_,fun i s' g' hi=>?_,fun i i' k hi hi' hk hk'=>?_,fun i k hi hk=>?_,
  fun i k hi hk=>?_,fun i k hi hk=>?_,fun k hk=>zid (r.qno k hk) hsz,r.qxc,fun i hi=>?_,r.ext.trans hx,by rw[hlo];exact r.lo⟩,hx⟩
 ·have hkb:k≠b:=by
   intro e;subst e;rcases hfresh with h|⟨h1,h2⟩
   ·have:=r.size;omega
   ·rcases r.own id k h2 h1 with h|h
    ·exact hW h
    ·omega
  rw[hoth k hkb (zid hk r.size)];exact r.kept k hk hW
 ·have h:i≠id:=fun e=>by subst e;rw[hid]at hi;cases hi
  rw[hH,if_neg h]at hi;obtain⟨h1,h2⟩:=r.obj i o hi;refine⟨h1,?_⟩;rw[hι i h];cases hk:M i with
  |none=>rw[hk]at h2;exact h2
  |some k=>
   rw[hk]at h2;obtain⟨cur,g1,g2,g3⟩:=h2;exact⟨cur,by rw[ho i k h (by rw[hi];trivial) hk];exact g1,g2,fun i hi j hj=>by obtain⟨c,a,b,d⟩:=g3 i hi j hj;exact⟨c,a,b,hx _ _ d⟩⟩
 ·by_cases h:i=id
  ·subst h;rw[hid]at hi;injection hi with e1 e2;subst e1;subst e2;exact⟨b,es',clock',hιd,hb',(hmap.ext hx).1,(hmap.ext hx).2⟩
  ·rw[hH,if_neg h]at hi;obtain⟨k,es,clock,g1,g2,g3,g4⟩:=r.qxx i s' g' hi;refine⟨k,es,clock,by rw[hι i h];exact g1,by rw[ho i k h (by rw[hi];trivial) g1];exact g2,g3,fun key hkey=>?_⟩
   have:=g4 key hkey;cases hg:g' key with
   |none=>rw[hg]at this;exact this
   |some u=>rw[hg]at this;obtain⟨n,e,a,b,c⟩:=this;exact⟨n,e,a,b,hx _ _ c⟩
 ·by_cases h:i=id
  ·by_cases h':i'=id
   ·exact h.trans h'.symm
   ·subst h;rw[hιd]at hk;rw[hι i' h']at hk';exact absurd (Option.some.inj hk).symm (hne i' k h' (hwas i' h' hi') hk')
  ·by_cases h':i'=id
   ·subst h';rw[hιd]at hk';rw[hι i h]at hk;exact absurd (Option.some.inj hk').symm (hne i k h (hwas i h hi) hk)
   ·rw[hι i h]at hk;rw[hι i' h']at hk';exact r.inj i i' k (hwas i h hi) (hwas i' h' hi') hk hk'
 ·by_cases h:i=id
  ·subst h;rw[hιd]at hk;rw[<- Option.some.inj hk];exact hbF
  ·rw[hι i h]at hk;exact r.qto i k (hwas i h hi) hk
 ·by_cases h:i=id
  ·subst h;rw[hιd]at hk;rw[<- Option.some.inj hk];rcases hfresh with h|⟨h1,h2⟩
   ·right;rw[h];exact r.size
   ·exact r.own i b h2 h1
  ·rw[hι i h]at hk;exact r.own i k (hwas i h hi) hk
 ·by_cases h:i=id
  ·subst h;rw[hιd]at hk;rw[<- Option.some.inj hk];exact hblt
  ·rw[hι i h]at hk;exact zid (r.lt i k (hwas i h hi) hk) hsz
 ·obtain⟨h1,h2⟩:=hn i hi;rw[hH,if_neg h1];exact r.next i h2
structure zfo(P:Program)(t:TypeId)(s:Bool)(e:TypeId):Prop where
 d:∃k,P.underlying t=some (.map k e)/\P.underlying k=some (if s=true then .string else .int .i64)
theorem qce.val_inj{a b:qce}(h:a.val=b.val):a=b:=by
 cases a<;>cases b<;>simp[qce.val]at h<;>simp[h]
theorem q5h{a b:qce}(h:a.isS=b.isS):Instr.sameNow (if a.isS=true then .string else .int .i64) a.val b.val=some (decide (a=b)):=by
 cases a<;>cases b<;>first|(cases h;done)|skip
 ·rename_i m n;simp only[qce.isS,qce.val,Instr.sameNow,zhs,if_false,if_true];simp only[Option.some.injEq];by_cases e:m=n<;>simp[e]
 ·rename_i m n;simp only[qce.isS,qce.val,Instr.sameNow,if_true];simp only[Option.some.injEq];by_cases e:m=n
  ·subst e;simpa using(MapKept.bytes_beq m m).2 rfl
  ·have:(m==n)=false:=by
    cases h2:(m==n)with
    |false=>rfl
    |true=>exact absurd ((MapKept.bytes_beq m n).1 h2) e
   simp[this,e]
theorem qmy{s:Bool}{k:qce}(hk:k.isS=s):∀(l:List MapEntry) (i:Nat),(∀e∈l,∃q:qce,q.isS=s/\e.key=q.val) ->
  (Instr.findNow (if s=true then .string else .int .i64) k.val l i=some none/\∀e∈l,e.key≠k.val) \/
  ∃j e,l[j]?=some e/\(e.key=k.val/\∀j',j'<j->∀e',l[j']?=some e'->e'.key≠k.val)/\Instr.findNow (if s=true then .string else .int .i64) k.val l i=some (some (i+j,e.val))
 |[],i,h=>.inl ⟨rfl,fun e he=>by cases he⟩
 |e::l,i,h=>by
  obtain⟨q,hq,he⟩:=h e (by simp);have hb:Instr.sameNow (if s=true then .string else .int .i64) k.val e.key=some (decide (k=q)):=by rw[he,<- hk];exact q5h (by rw[hk,hq])
  simp only[Instr.findNow,hb];by_cases hkq:k=q
  ·refine .inr ⟨0,e,rfl,⟨by rw[he,hkq],fun j' hj=>absurd hj (zhf _)⟩,?_⟩;rw[decide_eq_true hkq];rfl
  ·rw[decide_eq_false hkq];rcases qmy hk l (i+1) (fun e he=>h e (by simp[he]))with⟨h1,h2⟩|⟨j,e',h1,h2,h3⟩
   ·refine .inl ⟨h1,fun e' he'=>?_⟩;rcases zhr.1 he' with rfl|he'
    ·rw[he];exact fun x=>hkq (qce.val_inj x).symm
    ·exact h2 e' he'
   ·refine .inr ⟨j+1,e',by simpa using h1,⟨h2.1,fun j' hj e2 he2=>?_⟩,by rw[h3];simp;omega⟩
    cases j' with
    |zero=>simp at he2;subst he2;rw[he];exact fun x=>hkq (qce.val_inj x).symm
    |succ j'=>exact h2.2 j' (by omega) e2 (by simpa using he2)
section
variable {t e:TypeId} {s:Bool} {w:World}
theorem qmz{kt:TypeId}(hd:P.underlying kt=some (if s=true then .string else .int .i64)){k:qce}(hk:k.isS=s){es:List MapEntry}(h:∀e∈es,∃q:qce,q.isS=s/\e.key=q.val) :
  ((Instr.findKey kt k.val es).run P w=.ok none w/\∀e∈es,e.key≠k.val) \/
  ∃(j:Nat) (e:MapEntry),es[j]?=some e/\(e.key=k.val/\∀j',j'<j->∀e',es[j']?=some e'->e'.key≠k.val)/\(Instr.findKey kt k.val es).run P w=.ok (some (j,e.val)) w:=by
 rcases qmy hk es 0 h with⟨h1,h2⟩|⟨j,e,h1,h2,h3⟩
 ·refine .inl ⟨?_,h2⟩;simp only[Instr.findKey,Sem.run_bind,qai hd,Result.andThen_ok,h1];rfl
 ·refine .inr ⟨j,e,h1,h2,?_⟩;simp only[Instr.findKey,Sem.run_bind,qai hd,Result.andThen_ok,h3,zg9];rfl
theorem qff{kt:TypeId}{em:Bool}(hd:P.underlying kt=some (if s=true then .string else .int .i64)){k:qce}(hk:k.isS=s)(n:Nat):(Instr.checkKey em (n+1) kt k.val).run P w=.ok () w:=by
 simp only[Instr.checkKey,Sem.run_bind,qai hd,Result.andThen_ok]
 cases s<;>cases k<;>first|(cases hk;done)|rfl
theorem qhn{b:Nat}{es:Array MapEntry}{c:Nat}(h:w.heap[b]?=some (.map es c)):(getObj b).run P w=.ok (.map es c) w:=MapKept.run_getObj_map h
end
theorem qpk(n:Nat)(k:qce):Instr.sameBits n k.val k.val=true:=by
 cases k with
 |i m=>simp[qce.val,Instr.sameBits]
 |s b=>simp only[qce.val,Instr.sameBits];exact(MapKept.bytes_beq b b).2 rfl
theorem qvh{E:Env}{M:Id->Option Nat}{F:Nat->Prop}{a:Act}{w:World}(r:Rel E M F st a w){x:Operand}{id:Id}{s:Bool}{g:qce->Option V}(hx:st.eval x=.qcd id)(ho:st.heap.slot id=.mp s g) :
  ∃b es clock,a.eval x=.map (some b)/\M id=some b/\w.heap[b]?=some (.map es clock)/\qxu st.heap M F w s g es:=by
 have hr:=r.eval x;rw[hx]at hr;obtain⟨_,h2⟩:=hr;rw[ho]at h2;obtain⟨b,hb,hv⟩:=h2;obtain⟨b',es,clock,g1,g2,g3,g4⟩:=r.h.qxx _ s g ho;rw[hb]at g1;injection g1 with g1;subst g1;exact⟨b,es,clock,hv,hb,g2,g3,g4⟩
theorem SL.makeMap{t:TypeId}{s:Bool}(hk:SL P L Q ((st.on (st.heap.q9w s (fun _=>none))).put d (.qcd ⟨st.heap.next,[]⟩))):SL P (⟨d,.makeMap t none,ty,none⟩::L) Q st:=
 SL.value rfl fun E M F a w r=>by
  obtain⟨g1,g2⟩:=r.h.zbm ⟨st.heap.next,[]⟩ w.heap.size s (fun _=>none) #[] 0 (w.alloc (.map #[] 0)) (st.heap.q9w s (fun _=>none)) (fun i=>by
    simp only[qbe.q9w];by_cases h:i=⟨st.heap.next,[]⟩
    ·rw[if_pos h,Id.beq_iff.2 h];rfl
    ·have:Id.beq i ⟨st.heap.next,[]⟩=false:=by
      cases hb:Id.beq i ⟨st.heap.next,[]⟩with
      |false=>rfl
      |true=>exact absurd (Id.beq_iff.1 hb) h
     rw[if_neg h,this];rfl)
   (fun i hi=>by
    have hi:st.heap.next+1<=i.k:=hi;exact⟨fun e=>by subst e;exact absurd hi (by simp),by omega⟩) rfl rfl rfl rfl (by show w.heap.size<=(w.heap.push _).size;simp) (fun k _ hk=>(MapKept.heap_alloc w _).2 k hk) (MapKept.heap_alloc w _).1 (.inl rfl)
   ⟨fun e he=>by simp at he,fun k hk e he=>by simp at he⟩ (by rw[r.h.next _ (zg3 _)];trivial)
  refine⟨.map (some w.heap.size),_,_,F,_,.qcd ⟨st.heap.next,[]⟩,?_,g1,g2,⟨rfl,?_⟩,hk⟩
  ·rfl
  ·have:(st.heap.q9w s (fun _=>none)).slot ⟨st.heap.next,[]⟩=.mp s (fun _=>none):=by simp only[qbe.q9w,Id.beq_refl];rfl
   rw[this];exact⟨w.heap.size,by simp[upd],rfl⟩
def q75(g:qce->Option V)(k:qce)(u:V):qce->Option V:=fun x=>if x=k then some u else g x
theorem SL.mapUpdate{t e:TypeId}{s:Bool}(ht:zfo P t s e){x y z:Operand}{id:Id}{g:qce->Option V}{k:qce}{u:V}(hx:st.eval x=.qcd id)(ho:st.heap.slot id=.mp s g)(hks:k.isS=s)
  (hy:∀E M F a w,Rel E M F st a w->a.eval y=k.val) (hz:∀E M F a w,Rel E M F st a w->qay st.heap M F w u (a.eval z))
  (hk:SL P L Q ((st.on (st.heap.zbp id s (q75 g k u))).put d .un)):SL P (⟨d,.mapUpdate t x y z,ty,none⟩::L) Q st:=
 SL.skip rfl fun E M F a w r=>by
  obtain⟨kt,hd,hdk⟩:=ht.d;obtain⟨b,es,clock,hv,hb,hh,hm⟩:=qvh r hx ho;have hu:=hz E M F a w r;have hlt:b<w.heap.size:=(zic.1 hh).1;have key:∃es' clock',(Instr.mapUpdate t (a.eval x) (a.eval y) (a.eval z)).run P w=.ok () { w with heap:=w.heap.setIfInBounds b (.map es' clock') }/\qxu st.heap M F w s (q75 g k u) es':=by
   rw[hv,hy E M F a w r];rcases qmz (w:=w) hdk hks hm.1 with⟨h1,h2⟩|⟨j,en,h1,h2,h3⟩
   ·refine⟨es.push ⟨k.val,a.eval z,clock⟩,clock+1,?_,?_,fun q hq=>?_⟩
    ·simp only[Instr.mapUpdate,Sem.run_bind,qai hd,Result.andThen_ok,qhn hh,qff hdk hks 9999,h1,MapKept.run_setObj_map _ hh]
    ·intro en hen;rw[Array.toList_push]at hen;rcases zhj.1 hen with hen|hen
     ·exact hm.1 en hen
     ·simp only[zh7]at hen;subst hen;exact⟨k,hks,rfl⟩
    ·unfold q75;by_cases hqk:q=k
     ·subst hqk;rw[if_pos rfl];refine⟨es.size,⟨q.val,a.eval z,clock⟩,by simp,⟨rfl,fun j hj e' he'=>?_⟩,hu⟩;rw[Array.getElem?_push_lt hj]at he';injection he' with he';exact h2 e' (by rw[<- he'];exact zi6 _)
     ·rw[if_neg hqk];have h4:=hm.2 q hq;cases hg:g q with
      |none=>
       rw[hg]at h4;intro en hen;rw[Array.toList_push]at hen;rcases zhj.1 hen with hen|hen
       ·exact h4 en hen
       ·simp only[zh7]at hen;subst hen;exact fun x=>hqk (qce.val_inj x).symm
      |some v=>
       rw[hg]at h4;obtain⟨i,en,h5,h6,h7⟩:=h4;have hi:i<es.size:=(zic.1 h5).1;refine⟨i,en,by rw[Array.getElem?_push_lt hi,<- h5];exact(zhp hi).symm,⟨h6.1,fun j hj e' he'=>h6.2 j hj e' ?_⟩,h7⟩
       rw[Array.getElem?_push_lt (by omega)]at he';rw[<- he'];exact zhp _
   ·have hj:j<es.size:=by
     have:=(zi0.1 h1).1;simpa using this
    have hje:es[j]?=some en:=by rw[<- zh6];exact h1
    have hmod:∀i:Nat,(es.modify j fun e=>{ e with key:=k.val,val:=a.eval z })[i]?=if j=i then es[i]?.map (fun e=>{ e with key:=k.val,val:=a.eval z })else es[i]?:=fun i=>by
     rw[Array.getElem?_modify]
    refine⟨es.modify j fun e=>{ e with key:=k.val,val:=a.eval z },clock,?_,?_,fun q hq=>?_⟩
    ·simp only[Instr.mapUpdate,Sem.run_bind,qai hd,Result.andThen_ok,qhn hh,qff hdk hks 9999,h3];have:((Option.map (fun x=>x.key) es[j]?).getD k.val)=k.val:=by rw[hje];exact h2.1
     rw[this];simp only[Instr.keyThatStays,qpk,if_true,Sem.run_pure,Result.andThen_ok,MapKept.run_setObj_map _ hh]
    ·intro e2 he2;obtain⟨i,hi,rfl⟩:=zis he2;have h8:=hmod i;have hi':i<es.size:=by simpa using hi
     have h9:(es.modify j fun e=>{ e with key:=k.val,val:=a.eval z })[i]?=some ((es.modify j fun e=>{ e with key:=k.val,val:=a.eval z }).toList[i]):=by
      rw[<- zh6];exact zhb hi
     rw[h9]at h8;by_cases hji:j=i
     ·rw[if_pos hji,zhp hi']at h8;injection h8 with h8;rw[h8];exact⟨k,hks,rfl⟩
     ·rw[if_neg hji,zhp hi']at h8;injection h8 with h8;rw[h8];exact hm.1 _ (zi6 _)
    ·unfold q75;have hkey:∀(i:Nat) e',(es.modify j fun e=>{ e with key:=k.val,val:=a.eval z })[i]?=some e'->∃e0,es[i]?=some e0/\e0.key=e'.key:=by
      intro i e' he';rw[hmod]at he';by_cases hji:j=i
      ·subst hji;rw[if_pos rfl,hje]at he';injection he' with he';subst he';exact⟨en,hje,h2.1⟩
      ·rw[if_neg hji]at he';exact⟨e',he',rfl⟩
     by_cases hqk:q=k
     ·subst hqk;rw[if_pos rfl];refine⟨j,⟨q.val,a.eval z,en.born⟩,by rw[hmod,if_pos rfl,hje];rfl,⟨rfl,fun i hi e' he'=>?_⟩,hu⟩
      obtain⟨e0,q1,q2⟩:=hkey i e' he';rw[<- q2];exact h2.2 i hi e0 (by rw[zh6];exact q1)
     ·rw[if_neg hqk];have h4:=hm.2 q hq;cases hg:g q with
      |none=>
       rw[hg]at h4;intro e2 he2;obtain⟨i,hi,rfl⟩:=zis he2;obtain⟨e0,q1,q2⟩:=hkey i _ (by rw[<- zh6];exact zhb hi)
       rw[<- q2];have hi0:=(zic.1 q1)
       obtain⟨hi0,q1⟩:=hi0;exact h4 e0 (by rw[<- q1];exact zi6 _)
      |some v=>
       rw[hg]at h4;obtain⟨i,e2,h5,h6,h7⟩:=h4;have hji:j≠i:=fun e=>by
        subst e;rw[hje]at h5;injection h5 with h5;subst h5;exact hqk (qce.val_inj (h6.1.symm.trans h2.1))
       refine⟨i,e2,by rw[hmod,if_neg hji];exact h5,⟨h6.1,fun i' hi' e' he'=>?_⟩,h7⟩
       obtain⟨e0,q1,q2⟩:=hkey i' e' he';rw[<- q2];exact h6.2 i' hi' e0 q1
  obtain⟨es',clock',hrun,hm'⟩:=key;obtain⟨g1,g2⟩:=r.h.zbm id b s (q75 g k u) es' clock' { w with heap:=w.heap.setIfInBounds b (.map es' clock') } (st.heap.zbp id s (q75 g k u)) (fun i=>by
    simp only[qbe.zbp];by_cases h:i=id
    ·rw[if_pos h,Id.beq_iff.2 h];rfl
    ·have:Id.beq i id=false:=by
      cases hb:Id.beq i id with
      |false=>rfl
      |true=>exact absurd (Id.beq_iff.1 hb) h
     rw[if_neg h,this];rfl)
   (fun i hi=>⟨fun e=>(by subst e;rw[r.h.next _ hi]at ho;cases ho),hi⟩) rfl rfl rfl rfl (by simp) (fun k hk _=>(MapKept.heap_set hh).2 k hk) (MapKept.heap_set hh).1 (.inr ⟨hb,by rw[ho];trivial⟩) hm' (by rw[ho];exact hb)
  refine⟨_,_,F,_,?_,g1,g2,hk⟩;simp only[execOp,GOp.oper,Sem.run_bind,hrun,Result.andThen_ok,Sem.run_pure]
theorem O.lookup{t e:TypeId}{s:Bool}(ht:zfo P t s e){zv:Value}[hz:qbb P e zv]{x y:Operand}{id:Id}{g:qce->Option V}{k:qce}(hx:st.eval x=.qcd id)(ho:st.heap.slot id=.mp s g)(hks:k.isS=s)
  (hy:∀E M F a w,Rel E M F st a w->a.eval y=k.val) :
  QV P ⟨d,.lookup t x y false,ty,none⟩ ((g k).getD (V.ofValue zv)) st/\QV P ⟨d,.lookup t x y true,ty,none⟩ (.tup 2 (fun j=>if j=0 then(g k).getD (V.ofValue zv)else .t (.bool (g k).isSome))) st:=by
 have hzr:∀w:World,(zeroValue e).run P w=.ok zv w:=fun w=>qil w;have key:∀E M F a w,Rel E M F st a w->∃v,qay st.heap M F w ((g k).getD (V.ofValue zv)) v/\(∀ok,(Instr.lookup t (a.eval x) (a.eval y) ok).run P w=.ok (if ok=true then .tuple #[v,.bool (g k).isSome]else v) w):=by
  intro E M F a w r;obtain⟨kt,hd,hdk⟩:=ht.d;obtain⟨b,es,clock,hv,hb,hh,hm⟩:=qvh r hx ho;rw[hv,hy E M F a w r];have h4:=hm.2 k hks;rcases qmz (w:=w) hdk hks hm.1 with⟨h1,h2⟩|⟨j,en,h1,h2,h3⟩
  ·have hg:g k=none:=by
    cases hg:g k with
    |none=>rfl
    |some u=>
     rw[hg]at h4;obtain⟨i,en,h5,h6,_⟩:=h4;obtain⟨hi,h5⟩:=zic.1 h5;exact absurd h6.1 (h2 en (by rw[<- h5];exact zi6 _))
   rw[hg];refine⟨zv,V.qma _ _ _ _ _,fun ok=>?_⟩;simp only[Instr.lookup,Sem.run_bind,qai hd,Result.andThen_ok,qhn hh,Sem.run_pure,qff hdk hks 9999,h1,hzr];cases ok<;>rfl
  ·have h1':es[j]?=some en:=by rw[<- zh6];exact h1
   obtain⟨hj,h1''⟩:=zic.1 h1';cases hg:g k with
   |none=>rw[hg]at h4;exact absurd h2.1 (h4 en (by rw[<- h1''];exact zi6 _))
   |some u=>
    rw[hg]at h4;obtain⟨i,e2,h5,h6,h7⟩:=h4;have hij:i=j:=by
     rcases Nat.lt_trichotomy i j with h|h|h
     ·exact absurd h6.1 (h2.2 i h e2 (by rw[zh6];exact h5))
     ·exact h
     ·exact absurd h2.1 (h6.2 j h en h1')
    subst hij;rw[h1']at h5;injection h5 with h5;subst h5;refine⟨en.val,h7,fun ok=>?_⟩;simp only[Instr.lookup,Sem.run_bind,qai hd,Result.andThen_ok,qhn hh,Sem.run_pure,qff hdk hks 9999,h3];cases ok<;>rfl
 constructor
 ·intro E M F a w r;obtain⟨v,h1,h2⟩:=key E M F a w r;refine⟨v,?_,h1⟩;simp only[execOp,GOp.oper,Sem.run_bind,h2,Result.andThen_ok,Sem.run_pure];rfl
 ·intro E M F a w r;obtain⟨v,h1,h2⟩:=key E M F a w r;refine⟨_,by simp only[execOp,GOp.oper,Sem.run_bind,h2,Result.andThen_ok,Sem.run_pure,if_true],#[v,.bool (g k).isSome],rfl,rfl,fun j hj=>?_⟩
  match j,hj with
  |0,_=>exact⟨v,rfl,h1⟩
  |1,_=>exact⟨_,rfl,rfl⟩
end Go.Abs
