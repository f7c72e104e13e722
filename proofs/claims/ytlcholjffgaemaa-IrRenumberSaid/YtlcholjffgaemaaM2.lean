/-
Texts of the proof, part 2: A8 B1 G0 E1 E2 G1 G2 G3 G4 F8s G5 G6 G7 G8.
No statement of the program is proved here.
-/
import Derived.Test.YtlcholjffgaemaaM1
import Derived.Laws.Small
import Derived.BigFrame
set_option linter.unusedVariables false
set_option linter.unusedSimpArgs false
namespace Go.Abs
open Go
variable {P:Program} {Q:Exit->St->Prop} {st:St} {L:List GOp} {d:Option Tmp} {ty:TypeId} {K:St->Prop}
def qq3(M:Id->Option Nat)(id:Id):Id->Option Nat:=fun i=>if i=id then none else M i
theorem qc4.zc9{E:Env}{M:Id->Option Nat}{F:Nat->Prop}{H:qbe}{w:World}(r:qc4 E M F H w)(id:Id)(o':qcu)(H':qbe)
  (hH:∀i,H'.slot i=if i=id then .live o' else H.slot i) (hn:∀i,H'.next<=i.k->i≠id/\H.next<=i.k) (hlo:H'.lo=H.lo) (h0:o'.n=0)
  (hslot:match H.slot id with | .qae=>True | .live o=>o.ver<o'.ver|_=>False) :
  qc4 E (qq3 M id) F H' w/\Ext H M F w H' (qq3 M id) F w:=by
 have hid:(H'.slot id)=.live o':=by rw[hH,if_pos rfl]
 have hwas:∀i,i≠id->(H'.slot i).is->(H.slot i).is:=fun i hi h=>by rw[hH,if_neg hi]at h;exact h
 have hι:∀i,i≠id->qq3 M id i=M i:=fun i hi=>by simp[qq3,hi]
 have hιd:qq3 M id id=none:=by simp[qq3]
 have hx:Ext H M F w H' (qq3 M id) F w:=by
  refine Ext.of (fun _ h=>h) (fun _ _=>rfl) fun i=>?_;unfold qf5;by_cases hi:i=id
  ·subst hi;rw[hid];cases hs:H.slot i with
   |qae=>trivial
   |dead=>rw[hs]at hslot;exact hslot.elim
   |mp _ _=>rw[hs]at hslot;exact hslot.elim
   |live o=>
    rw[hs]at hslot;simp only at hslot ⊢;exact .inr ⟨o',rfl,by omega,fun he=>by omega⟩
  ·rw[hH,if_neg hi];cases hs:H.slot i with
   |qae=>trivial
   |dead=>rfl
   |mp s g=>exact .inr ⟨⟨s,g,rfl⟩,hι i hi⟩
   |live o=>exact .inr ⟨o,rfl,zg3 _,fun _=>⟨rfl,rfl,zg3 _,hι i hi,fun b cur hb hc=>⟨cur,hc,rfl⟩⟩⟩
 have hid':∀i k,qq3 M id i=some k->i≠id:=fun i k h e=>by subst e;rw[hιd]at h;cases h
 refine⟨⟨r.os,r.tape,r.output,r.size,r.kept,fun i o hi=>?_,fun i s g hi=>?_,fun i i' k hi hi' hk hk'=>?_,fun i k hi hk=>?_,fun i k hi hk=>?_,fun i k hi hk=>?_,r.qno,r.qxc,fun i hi=>?_,r.ext.trans hx,by rw[hlo];exact r.lo⟩,hx⟩
 ·by_cases h:i=id
  ·subst h;rw[hid]at hi;injection hi with hi;subst hi;refine⟨by rw[h0];exact Nat.zero_le _,?_⟩
   rw[hιd];exact h0
  ·rw[hH,if_neg h]at hi;obtain⟨h1,h2⟩:=r.obj i o hi;refine⟨h1,?_⟩;rw[hι i h];cases hk:M i with
   |none=>rw[hk]at h2;exact h2
   |some k=>
    rw[hk]at h2;obtain⟨cur,g1,g2,g3⟩:=h2;exact⟨cur,g1,g2,fun i hi j hj=>by obtain⟨c,a,b,d⟩:=g3 i hi j hj;exact⟨c,a,b,hx _ _ d⟩⟩
 ·have h:i≠id:=fun e=>by subst e;rw[hid]at hi;cases hi
  rw[hH,if_neg h]at hi;obtain⟨k,es,clock,g1,g2,g3,g4⟩:=r.qxx i s g hi;refine⟨k,es,clock,by rw[hι i h];exact g1,g2,g3,fun key hkey=>?_⟩
  have:=g4 key hkey;cases hg:g key with
  |none=>rw[hg]at this;exact this
  |some u=>rw[hg]at this;obtain⟨n,e,a,b,c⟩:=this;exact⟨n,e,a,b,hx _ _ c⟩
 ·have h:=hid' i k hk;have h':=hid' i' k hk';rw[hι i h]at hk;rw[hι i' h']at hk';exact r.inj i i' k (hwas i h hi) (hwas i' h' hi') hk hk'
 ·have h:=hid' i k hk;rw[hι i h]at hk;exact r.qto i k (hwas i h hi) hk
 ·have h:=hid' i k hk;rw[hι i h]at hk;exact r.own i k (hwas i h hi) hk
 ·have h:=hid' i k hk;rw[hι i h]at hk;exact r.lt i k (hwas i h hi) hk
 ·obtain⟨h1,h2⟩:=hn i hi;rw[hH,if_neg h1];exact r.next i h2
def Src(st:St)(x:Operand)(m s:Nat)(news:Nat->Nat->V):Prop:=∀E M F a w,Rel E M F st a w->∃B c,a.eval x=.slice B m c/\m<=c /\
 (0<m->∃ad,B=some ad/\∀i,i<m->∀j,j<s->∃v,w.cell? (ad.add (i*s+j))=some v/\v.oneCell'=true/\qay st.heap M F w (news i j) v)
theorem Src.qbq{x:Operand}{id:Id}{ver rr m s:Nat}{o:qcu}(hx:st.eval x=.qbq id ver rr m)(ho:st.heap.slot id=.live o)(hv:ver=o.ver)(hs:o.sz=s) :
  Src st x m s (fun i j=>o.get (i+rr) j):=fun E M F a w r=>by
 subst hs;obtain⟨hn,A,cap,h1,h2,h3⟩:=qi1 r hx ho hv;refine⟨A,cap,h1,h2,fun hm=>?_⟩;obtain⟨b,cur,hb,rfl,hh,hsz⟩:=h3 (by omega);obtain⟨cur',g1,g2,g3⟩:=qdm r.h ho hb;refine⟨_,rfl,fun i hi j hj=>?_⟩;obtain⟨u,q1,q2,q3,q4⟩:=g3 (i+rr) (by omega) j hj;exact⟨u,by rw[qgm,show rr*o.sz+(i*o.sz+j)=(i+rr)*o.sz+j by rw[zim];omega];exact q1,q3,q4⟩
theorem Src.sl{x:Operand}{m s:Nat}{get:Nat->Nat->T}(hx:st.eval x=.t (.sl s m get)):Src st x m s (fun i j=>.t (get i j)):=fun E M F a w r=>by
 have hr:=r.eval x;rw[hx]at hr;obtain⟨A,cap,h1,h2,h3,h4⟩:=hr;refine⟨A,cap,h1,h2,fun hm=>?_⟩;obtain⟨b,o,rfl,hb,hc⟩:=h4 hm;refine⟨_,rfl,fun i hi j hj=>?_⟩;obtain⟨c,q1,q2⟩:=hc i hi j hj;exact⟨c,by rw[qgm];exact q1,q2.plain,q2⟩
theorem Src.qby{x:Operand}{s:Nat}(hx:st.eval x=.qby):Src st x 0 s (fun _ _=>.un):=fun E M F a w r=>by
 have hr:=r.eval x;rw[hx]at hr;exact⟨none,0,hr,zg3 _,fun h=>absurd h (zio _)⟩
theorem qtu{p:Nat->Nat->Value->Prop}(s:Nat):∀m,(∀i,i<m->∀j,j<s->∃c,p i j c)->∃cs:List Value,cs.length=m*s/\∀i,i<m->∀j,j<s->∃c,cs[i*s+j]?=some c/\p i j c
 |0,_=>⟨[],by simp,fun i hi=>absurd hi (zhf _)⟩
 |m+1,h=>by
  obtain⟨cs,hl,hp⟩:=qtu s m (fun i hi=>h i (by omega));obtain⟨ds,hl2,hp2⟩:=qv1 (p:=fun j c=>p m j c) s (fun j hj=>h m (by omega) j hj);refine⟨cs++ds,by rw[zg6,hl,hl2,Nat.succ_mul],fun i hi j hj=>?_⟩;by_cases him:i<m
  ·obtain⟨c,h1,h2⟩:=hp i him j hj;have hlt:i*s+j<cs.length:=(zi0.1 h1).1;exact⟨c,by rw[ziz hlt];exact h1,h2⟩
  ·have:i=m:=by omega
   subst this;have hlt:j<ds.length:=by omega
   exact⟨ds[j],by rw[List.getElem?_append_right (by omega),hl,show i*s+j-i*s=j by omega];exact zhb hlt,hp2 j _ (zhb hlt)⟩
theorem qry{i j m s:Nat}(hi:i<m)(hj:j<s):i*s+j<m*s:=by
 have:(i+1)*s<=m*s:=zie _ hi;rw[Nat.succ_mul]at this;omega
theorem q0k{k m s:Nat}(h:k<m*s):∃i j,i<m/\j<s/\k=i*s+j:=by
 have hs:0<s:=by
  rcases Nat.eq_zero_or_pos s with h0|h0
  ·subst h0;simp at h
  ·exact h0
 refine⟨k/s,k % s,Nat.div_lt_of_lt_mul (by rw[Nat.mul_comm];exact h),Nat.mod_lt _ hs,?_⟩
 rw[Nat.mul_comm];exact(Nat.div_add_mod k s).symm
def qcu.app(o:qcu)(m:Nat)(news:Nat->Nat->V):qcu:=
 { o with ver:=o.ver+1,n:=o.n+m,get:=fun i j=>bif Nat.blt i o.n then o.get i j else news (i-o.n) j }
theorem qdc{a b:Nat}(h:a<b):Nat.blt a b=true:=Nat.ble_eq_true_of_le h
theorem qdv{a b:Nat}(h:b<=a):Nat.blt a b=false:=by
 cases hb:Nat.blt a b with
 |false=>rfl
 |true=>have:=zg4 hb;omega
theorem qc4.append{t ty' e:TypeId}{s by_:Nat}[ht:qb2 P t e s by_]{z:Value}[hz:qbb P e z](hzs:z.cells.size=s){E:Env}{M:Id->Option Nat}{F:Nat->Prop}{H:qbe}{w:World}(r:qc4 E M F H w)
  {id:Id} {o:qcu} (ho:H.slot id=.live o) (hs:o.sz=s) (he:o.elem=e) {A:Option Addr} {cap:Nat} (hlc:o.n<=cap)
  (hcap:0<cap->∃b cur,M id=some b/\A=some ⟨b,0,none⟩/\w.heap[b]?=some (.cells cur o.elem (0,0))/\cap*o.sz<=cur.size)
  {B:Option Addr} {m c:Nat} (hmc:m<=c) {news:Nat->Nat->V}
  (hsrc:0<m->∃ad,B=some ad/\∀i,i<m->∀j,j<s->∃v,w.cell? (ad.add (i*s+j))=some v/\v.oneCell'=true/\qay H M F w (news i j) v)
  (hb:(o.n+m)*by_<=140737488355328) (hl:o.n+m<=LEN) :
  ∃A' cap' w' ι',(Builtin.append_ #[t,t] ty' #[.slice A o.n cap,.slice B m c]).run P w=.ok (.slice A' (o.n+m) cap') w' /\
   qc4 E ι' F (H.set id (o.app m news)) w'/\Ext H M F w (H.set id (o.app m news)) ι' F w'/\qay (H.set id (o.app m news)) ι' F w' (.qbq id (o.ver+1) 0 (o.n+m)) (.slice A' (o.n+m) cap'):=by
 have hLEN:LEN=281474976710656:=rfl;subst hs;subst he;have hsi:=ht.s;cases hq:P.info? o.elem with
 |none=>simp[hq]at hsi
 |some inf=>
 simp only[hq,zii,Option.some.injEq,Prod.mk.injEq]at hsi;obtain⟨hsi1,hsi2⟩:=hsi;have hz0:=hz.z;simp only[hq,zii,Option.some.injEq]at hz0;have hH:∀i,(H.set id (o.app m news)).slot i=if i=id then .live (o.app m news)else H.slot i:=fun i=>by simp only[qbe.set];exact qef _ _ _ _
 have hnx:∀i:Id,(H.set id (o.app m news)).next<=i.k->i≠id/\H.next<=i.k:=fun i hi=>⟨fun e=>(by
  subst e;have:=r.next i hi;rw[ho]at this;cases this),hi⟩
 have hself:(H.set id (o.app m news)).slot id=.live (o.app m news):=by rw[hH,if_pos rfl]
 rcases Nat.eq_zero_or_pos m with hm|hm
 ·-- nothing is appended
  subst hm;have hrun:(Builtin.append_ #[t,t] ty' #[.slice A o.n cap,.slice B 0 c]).run P w=.ok (.slice A (o.n+0) cap) w:=by
   have hl0:∀(x:Addr),(loadCells x 0).run P w=.ok #[] w:=fun x=>by simpa using run_loadCells_list (P:=P) w x [] (by simp)
   cases A<;>cases B<;>simp[Builtin.append_,qai ht.d,sizeOf,typeInfo,hq,Builtin.lenOf,Builtin.firstCells,hlc,storeCells,hl0]
  cases hι:M id with
  |none=>
   have h0:o.n=0:=by have:=(r.obj id o ho).2;rw[hι]at this;exact this
   obtain⟨r1,x1⟩:=r.zc9 id (o.app 0 news) _ hH hnx rfl h0 (by rw[ho];show o.ver<o.ver+1;omega)
   refine⟨A,cap,w,_,hrun,r1,x1,rfl,?_⟩;rw[hself];refine⟨zg3 _,fun _=>⟨by show 0+(o.n+0)<=o.n+0;omega,A,cap,rfl,hlc,fun hc=>?_⟩⟩
   obtain⟨b,cur,hb',_⟩:=hcap hc;rw[hι]at hb';cases hb'
  |some b=>
   obtain⟨cur,g1,g2,g3⟩:=qdm r ho hι;obtain⟨r1,x1⟩:=r.step id b (o.app 0 news) cur w _ hH hnx rfl rfl rfl rfl (zg3 _) (fun _ _ _=>rfl) g1 (.inr ⟨hι,by rw[ho];trivial⟩) hl g2
    (fun i hi j hj=>by
     have hi':i<o.n:=hi;obtain⟨u,q1,q2,q3,q4⟩:=g3 i hi' j hj;exact⟨u,q2,q3,by simp only[qcu.app,qdc hi',cond_true];exact q4⟩)
    (by rw[ho];exact⟨by show o.ver<=o.ver+1;omega,fun h=>by have:o.ver=o.ver+1:=h;omega⟩)
   refine⟨A,cap,w,_,hrun,r1,x1,rfl,?_⟩;rw[hself];refine⟨zg3 _,fun _=>⟨by show 0+(o.n+0)<=o.n+0;omega,A,cap,rfl,hlc,fun hc=>?_⟩⟩
   obtain⟨b',cur',hb',hA,hh,hsz⟩:=hcap hc;exact⟨b',cur',by simp[upd];rw[hι]at hb';exact Option.some.inj hb',by rw[hA];simp,hh,by simpa[qcu.app]using hsz⟩
 ·obtain⟨ad,rfl,hsrc'⟩:=hsrc hm;obtain⟨nl,hnl,hnews⟩:=qtu (p:=fun i j v=>w.cell? (ad.add (i*o.sz+j))=some v/\v.oneCell'=true/\qay H M F w (news i j) v) o.sz m hsrc';have hnl1:∀k v,nl[k]?=some v->w.cell? (ad.add k)=some v/\v.oneCell'=true:=fun k v hv=>by
   have hk:k<m*o.sz:=by rw[<- hnl];exact(zi0.1 hv).1
   obtain⟨i,j,hi,hj,rfl⟩:=q0k hk;obtain⟨c',h1,h2,h3,_⟩:=hnews i hi j hj;rw[h1]at hv;have:=Option.some.inj hv;subst this;exact⟨h2,h3⟩
  by_cases hfit:o.n+m<=cap
  ·-- it fits
   obtain⟨b,cur,hι,rfl,hh,hsz⟩:=hcap (by omega);obtain⟨cur0,g1,g2,g3⟩:=qdm r ho hι;rw[hh]at g1;injection g1 with g1;injection g1 with g1;subst g1;have hroom:o.n*o.sz+nl.length<=cur.size:=by
    rw[hnl,<- zim];exact zhy (zie _ hfit) hsz
   have hl1:=run_loadCells_list (P:=P) w ad nl (fun k v hv=>(hnl1 k v hv).1);have hst:=run_storeCells_cells (P:=P) b (o.n*o.sz) nl 0 w (fun j hj=>by simp[World.cell?,hh];omega) (fun j hj=>by simp[World.frozen?,hh]) (fun v hv=>by
    obtain⟨k,hk,hkv⟩:=zis hv;exact(hnl1 k v (by rw[zhb hk,hkv])).2)
   have hrun:(Builtin.append_ #[t,t] ty' #[.slice (some ⟨b,0,none⟩) o.n cap,.slice (some ad) m c]).run P w=.ok (.slice (some ⟨b,0,none⟩) (o.n+m) cap) (w.setCells b (o.n*o.sz) nl):=by
    have hadd:(⟨b,0,none⟩:Addr).add (o.n*o.sz)=⟨b,o.n*o.sz,none⟩:=by rw[qgm];simp
    simp only[zh3]at hst;rw[hnl]at hl1;simp[Builtin.append_,qai ht.d,sizeOf,typeInfo,hq,Builtin.lenOf,Builtin.firstCells,hfit,hsi1,hl1,hadd,hst]
   obtain⟨k1,k2,k3,k4⟩:=qiq (b:=b) nl (o.n*o.sz) w;obtain⟨r1,x1⟩:=r.step id b (o.app m news) (qgz cur (o.n*o.sz) nl) _ _ hH hnx rfl k1 k2 k3 (by omega) (fun k hk _=>qhw hk _ _ _) (qga nl _ w cur hh) (.inr ⟨hι,by rw[ho];trivial⟩) hl
    (by show(o.n+m)*o.sz<=_;rw[qgb];rw[zim];omega)
    (fun i hi j hj=>by
     have hi':i<o.n+m:=hi;have hj':j<o.sz:=hj;show ∃c,(qgz cur (o.n*o.sz) nl)[i*o.sz+j]?=some c/\_;rw[qn7 _ _ _ hroom];by_cases hin:i<o.n
     ·have:=qry hin hj';rw[if_neg (by omega)];obtain⟨u,q1,q2,q3,q4⟩:=g3 i hin j hj';exact⟨u,q2,q3,by simp only[qcu.app,qdc hin,cond_true];exact q4⟩
     ·have h1:(i-o.n)*o.sz+j<m*o.sz:=qry (by omega) hj';have h2:i*o.sz+j=o.n*o.sz+((i-o.n)*o.sz+j):=by
       rw[<- Nat.add_assoc,<- zim];congr 2;omega
      rw[if_pos (by omega)];obtain⟨v,q1,q2,q3,q4⟩:=hnews (i-o.n) (by omega) j hj';exact⟨v,by rw[h2,show o.n*o.sz+((i-o.n)*o.sz+j)-o.n*o.sz=(i-o.n)*o.sz+j by omega];exact q1,q3,by simp only[qcu.app,qdv (show o.n<=i by omega),cond_false];exact q4⟩)
    (by rw[ho];exact⟨by show o.ver<=o.ver+1;omega,fun h=>by have:o.ver=o.ver+1:=h;omega⟩)
   refine⟨_,cap,_,_,hrun,r1,x1,rfl,?_⟩;rw[hself];refine⟨zg3 _,fun _=>⟨by show 0+(o.n+m)<=o.n+m;omega,_,cap,rfl,hfit,fun hc=>?_⟩⟩
   exact⟨b,_,qf8 _ _ _,by simp,qga nl _ w cur hh,by rw[qgb];simpa[qcu.app]using hsz⟩
  ·-- it grows
   have hg:cap<o.n+m:=by omega
   have hf:=growslice_fits (old:=cap) hg hb
   -- the old cells
   have hold:∃olds:List Value,olds.length=o.n*o.sz/\(∀j v,olds[j]?=some v->∀bb,A=some bb->w.cell? (bb.add j)=some v)/\∀i,i<o.n->∀j,j<o.sz->∃c,olds[i*o.sz+j]?=some c/\c.oneCell'=true/\qay H M F w (o.get i j) c:=by
    rcases Nat.eq_zero_or_pos cap with hc|hc
    ·have h0:o.n=0:=by omega
     exact⟨[],by simp[h0],fun j v hv=>by simp at hv,fun i hi=>by omega⟩
    ·obtain⟨b,cur,hι,rfl,hh,hsz⟩:=hcap hc;obtain⟨cur0,g1,g2,g3⟩:=qdm r ho hι;obtain⟨ol,hol,hp⟩:=qtu (p:=fun i j v=>w.cell? ⟨b,i*o.sz+j,none⟩=some v/\v.oneCell'=true/\qay H M F w (o.get i j) v) o.sz o.n (fun i hi j hj=>by
      obtain⟨u,q1,q2,q3,q4⟩:=g3 i hi j hj;exact⟨u,q1,q3,q4⟩)
     refine⟨ol,hol,fun k v hv bb hbb=>?_,fun i hi j hj=>?_⟩
     ·have hk:k<o.n*o.sz:=by rw[<- hol];exact(zi0.1 hv).1
      obtain⟨i,j,hi,hj,rfl⟩:=q0k hk;obtain⟨c',h1,h2,_⟩:=hp i hi j hj;rw[h1]at hv;have:=Option.some.inj hv;subst this;have:=Option.some.inj hbb;subst this;rw[qgm,zg9];exact h2
     ·obtain⟨c',h1,h2,h3,h4⟩:=hp i hi j hj;exact⟨c',h1,h3,h4⟩
   obtain⟨olds,holl,hol1,hol2⟩:=hold;have hgc:=grownCap_ge w (o.n+m) cap o.elem;have hrun:(Builtin.append_ #[t,t] ty' #[.slice A o.n cap,.slice (some ad) m c]).run P w=.ok (.slice (some ⟨w.heap.size,0,none⟩) (o.n+m) (grownCap w (o.n+m) cap o.elem))
     (w.drew.alloc (.cells (olds.toArray++nl.toArray++Builtin.zeroCells z.cells (grownCap w (o.n+m) cap o.elem-(o.n+m))) o.elem)):=by
    cases A with
    |none=>
     have hc0:cap=0:=by
      rcases Nat.eq_zero_or_pos cap with h|h
      ·exact h
      ·obtain⟨_,_,_,h,_⟩:=hcap h;cases h
     have hn0:o.n=0:=by omega
     have hol0:olds=[]:=zi4 (by rw[holl,hn0];simp)
     subst hc0;rw[hn0,hol0];simp only[zg9];have:=run_append_nil (P:=P) w t ty' o.elem inf z ht.d hq hz0 ad m c nl (by rw[hnl,hsi1]) (fun j v hv=>(hnl1 j v hv).1) hm (by omega) (by rw[hsi2];rw[hn0]at hb;simp at hb;omega)
     simpa using this
    |some bb=>
     exact run_append_grow (P:=P) w t ty' o.elem inf z ht.d hq hz0 bb o.n cap olds (by rw[holl,hsi1]) (fun j v hv=>hol1 j v hv bb rfl) ad m c nl (by rw[hnl,hsi1]) (fun j v hv=>(hnl1 j v hv).1) hg (by omega) (by rw[hsi2];exact hf)
   have hzc:(Builtin.zeroCells z.cells (grownCap w (o.n+m) cap o.elem-(o.n+m))).size=(grownCap w (o.n+m) cap o.elem-(o.n+m))*o.sz:=by
    simp[Builtin.zeroCells,hzs]
   have hcsz:(olds.toArray++nl.toArray++Builtin.zeroCells z.cells (grownCap w (o.n+m) cap o.elem-(o.n+m))).size=(grownCap w (o.n+m) cap o.elem)*o.sz:=by
    rw[Array.size_append,Array.size_append,hzc];simp only[List.size_toArray,holl,hnl];rw[<- zim,<- zim];congr 1;omega
   obtain⟨r0,x0⟩:=r.same (w':=w.drew) rfl rfl rfl rfl;have hoc:∀i,i<o.n+m->∀j,j<o.sz->∃c,(olds.toArray++nl.toArray++Builtin.zeroCells z.cells (grownCap w (o.n+m) cap o.elem-(o.n+m)))[i*o.sz+j]?=some c/\c.oneCell'=true/\qay H M F w ((o.app m news).get i j) c:=by
    intro i hi j hj;have hlt:i*o.sz+j<(olds.toArray++nl.toArray).size:=by
     simp only[Array.size_append,List.size_toArray,holl,hnl];rw[<- zim];exact qry hi hj
    rw[zi5 hlt];by_cases hin:i<o.n
    ·have h1:=qry hin hj;rw[zi5 (by simp only[List.size_toArray,holl];exact h1)]
     obtain⟨c',q1,q2,q3⟩:=hol2 i hin j hj;exact⟨c',by simpa using q1,q2,by simp only[qcu.app,qdc hin,cond_true];exact q3⟩
    ·have h2:i*o.sz+j=o.n*o.sz+((i-o.n)*o.sz+j):=by
      rw[<- Nat.add_assoc,<- zim];congr 2;omega
     rw[Array.getElem?_append_right (by simp only[List.size_toArray,holl];omega)]
     obtain⟨c',q1,q2,q3,q4⟩:=hnews (i-o.n) (by omega) j hj;exact⟨c',by simp only[List.size_toArray,holl];rw[h2,show o.n*o.sz+((i-o.n)*o.sz+j)-o.n*o.sz=(i-o.n)*o.sz+j by omega];simpa using q1,q3,
      by simp only[qcu.app,qdv (show o.n<=i by omega),cond_false];exact q4⟩
   obtain⟨r1,x1⟩:=r0.step id w.heap.size (o.app m news) (olds.toArray++nl.toArray++Builtin.zeroCells z.cells (grownCap w (o.n+m) cap o.elem-(o.n+m)))
    (w.drew.alloc (.cells (olds.toArray++nl.toArray++Builtin.zeroCells z.cells (grownCap w (o.n+m) cap o.elem-(o.n+m))) o.elem)) _ hH hnx rfl rfl rfl rfl (by simp) (fun k hk hlt=>by
     show(w.heap.push _)[k]?=_;rw[Array.getElem?_push,if_neg (by exact hk)];rfl) (by show(w.heap.push _)[w.heap.size]?=_;simp;rfl) (.inl rfl) hl
    (by rw[hcsz];exact zie _ hgc) (fun i hi j hj=>by
     obtain⟨c',q1,q2,q3⟩:=hoc i hi j hj;exact⟨c',q1,q2,x0 _ _ q3⟩)
    (by rw[ho];exact⟨by show o.ver<=o.ver+1;omega,fun h=>by have:o.ver=o.ver+1:=h;omega⟩)
   refine⟨_,_,_,_,hrun,r1,x0.trans x1,rfl,?_⟩;rw[hself];refine⟨zg3 _,fun _=>⟨by show 0+(o.n+m)<=o.n+m;omega,_,_,rfl,hgc,fun hc=>?_⟩⟩
   exact⟨w.heap.size,(olds.toArray++nl.toArray++Builtin.zeroCells z.cells (grownCap w (o.n+m) cap o.elem-(o.n+m))),qf8 _ _ _,by simp,by show(w.heap.push _)[w.heap.size]?=_;simp;rfl,by rw[hcsz];simp[qcu.app]⟩
theorem SL.append{t e:TypeId}{s by_:Nat}[ht:qb2 P t e s by_]{z:Value}[hz:qbb P e z]{x y:Operand}{id:Id}{ver len m:Nat}{o:qcu}{news:Nat->Nat->V}
  (hx:st.eval x=.qbq id ver 0 len) (ho:st.heap.slot id=.live o) (hv:ver=o.ver) (hln:len=o.n) (hs:o.sz=s) (he:o.elem=e) (hzs:z.cells.size=s) (hy:Src st y m s news)
  (hb:(o.n+m)*by_<=140737488355328) (hl:o.n+m<=LEN)
  (hk:SL P L Q ((st.on (st.heap.set id (o.app m news))).put d (.qbq id (o.ver+1) 0 (o.n+m)))) :
  SL P (⟨d,.call { callee:=.builtin .append,args:=#[x,y],argTypes:=#[t,t] },ty,none⟩::L) Q st:=
 SL.value rfl fun E M F a w r=>by
  subst hln;obtain⟨hn,A,cap,h1,h2,h3⟩:=qi1 r hx ho hv;obtain⟨B,c,g1,g2,g3⟩:=hy E M F a w r;obtain⟨A',cap',w',ι',q1,q2,q3,q4⟩:=r.h.append (P:=P) (t:=t) (ty':=ty) (s:=s) (by_:=by_) (z:=z) hzs ho hs he h2 (fun hc=>by
   obtain⟨b,cur,p1,p2,p3,p4⟩:=h3 hc;exact⟨b,cur,p1,by simpa using p2,p3,by simpa using p4⟩) g2 g3 hb hl
  exact⟨_,w',ι',F,_,_,by simp[execOp,GOp.oper,resolve,invoke,builtin,h1,g1,q1],q2,q3,q4,hk⟩
end Go.Abs
namespace Go.Abs
open Go
variable {P:Program} {Q:Exit->St->Prop} {st:St} {L:List GOp} {d:Option Tmp} {ty:TypeId} {K:St->Prop}
def qaz:Slot->Slot->Prop
 |_,.dead=>True
 |.live o,.live o'=>o'.ver=o.ver/\o'.elem=o.elem/\o'.sz=o.sz/\o'.n=o.n
 |.mp _ _,.mp _ _=>True
 |_,_=>False
def Nx(H:qbe):Prop:=∀id:Id,H.next<=id.k->H.slot id=.qae
theorem qkt{α:Type}{d:α}{l m:List α}{i:Nat}(h:i<l.length):(l++m).getD i d=l.getD i d:=by
 simp[zg0,ziz h]
end Go.Abs
namespace Go.Abs
open Go
def FZ(H:qbe)(M:Id->Option Nat)(Z:Id->Prop)(F:Nat->Prop)(b:Nat):Prop:=F b\/∃i,Z i/\(H.slot i).is/\M i=some b
def mι(m:Id->Option Id)(M:Id->Option Nat):Id->Option Nat:=fun i=>match m i with
 |some x=>M x
 |none=>none
theorem qca{m:Id->Option Id}{M:Id->Option Nat}{i x:Id}(h:m i=some x):mι m M i=M x:=by unfold mι;rw[h]
theorem qve{m:Id->Option Id}{M:Id->Option Nat}{i:Id}(h:m i=none):mι m M i=none:=by unfold mι;rw[h]
theorem qpx{m:Id->Option Id}{M:Id->Option Nat}{i:Id}{b:Nat}(h:mι m M i=some b):∃x,m i=some x/\M x=some b:=by
 unfold mι at h;cases hm:m i with
 |none=>rw[hm]at h;cases h
 |some x=>rw[hm]at h;exact⟨x,rfl,h⟩
def KG(H H':qbe)(m:Id->Option Id)(Z:Id->Prop)(u u':V):Prop:=∀E M F w v,qc4 E M F H w->qay H M F w u v->qay H' (mι m M) (FZ H M Z F) w u' v
structure Gen(H H':qbe)(m:Id->Option Id)(Z:Id->Prop):Prop where
 lo:H'.lo=H.lo
 next:Nx H'
 obj:∀i o',H'.slot i=.live o'->(m i=none/\o'.n=0)\/∃x o,m i=some x/\H.slot x=.live o/\¬ Z x/\o'.elem=o.elem/\o'.sz=o.sz/\o'.n<=o.n/\∀r,r<o'.n->∀c,c<o'.sz->KG H H' m Z (o.get r c) (o'.get r c)
 mp:∀i s g',H'.slot i=.mp s g'->∃x g,m i=some x/\H.slot x=.mp s g/\¬ Z x/\∀k,(g k=none/\g' k=none)\/∃u u',g k=some u/\g' k=some u'/\KG H H' m Z u u'
 inj:∀i j x,(H'.slot i).is->(H'.slot j).is->m i=some x->m j=some x->i=j
 low:∀i:Id,i.k<H.lo->i.p=[]->H.slot i=.qae\/H'.slot i=.dead\/(m i=some i/\qaz (H.slot i) (H'.slot i))
theorem Gen.ext{E:Env}{M:Id->Option Nat}{F:Nat->Prop}{H H':qbe}{m:Id->Option Id}{Z:Id->Prop}{w:World}(r:qc4 E M F H w)(k:Gen H H' m Z) :
  Ext E.H0 E.ι0 E.F0 E.w0 H' (mι m M) (FZ H M Z F) w:=by
 have hF:∀b,F b->FZ H M Z F b:=fun b h=>.inl h;have low:∀id,E.H0.slot id≠.qae->H.slot id=.qae\/H'.slot id=.dead\/(m id=some id/\qaz (H.slot id) (H'.slot id)):=fun id h=>
  k.low id (Nat.lt_of_not_le fun hle=>h (r.lo id (.inl hle))) (Classical.byContradiction fun hp=>h (r.lo id (.inr hp)))
 have key:∀u v,qay E.H0 E.ι0 E.F0 E.w0 u v->qay H M F w u v->qay H' (mι m M) (FZ H M Z F) w u v:=by
  intro u
  induction u with
  |ptr id ver rr c=>
   rintro v ⟨_,h0⟩ ⟨h1,h2⟩
   refine⟨h1,?_⟩;rcases low id (fun e=>by rw[e]at h0;exact h0)with hu|hd|⟨hm,hl⟩
   ·rw[hu]at h2;exact h2.elim
   ·rw[hd];trivial
   ·cases hs':H'.slot id with
    |dead=>trivial
    |qae=>rw[hs']at hl;cases hs:H.slot id<;>rw[hs]at hl<;>exact hl.elim
    |mp s g=>trivial
    |live o'=>
     rw[hs']at hl;cases hs:H.slot id with
     |live o=>
      rw[hs]at hl h2;obtain⟨a,b,c,d⟩:=hl;simp only[qca hm]at h2 ⊢;rw[a,c];exact h2
     |qae=>rw[hs]at hl;exact hl.elim
     |dead=>rw[hs]at hl;exact hl.elim
     |mp _ _=>rw[hs]at hl;exact hl.elim
  |qbq id ver rr len=>
   rintro v ⟨_,h0⟩ ⟨h1,h2⟩
   refine⟨h1,?_⟩;rcases low id (fun e=>by rw[e]at h0;exact h0)with hu|hd|⟨hm,hl⟩
   ·rw[hu]at h2;exact h2.elim
   ·rw[hd];trivial
   ·cases hs':H'.slot id with
    |dead=>trivial
    |qae=>rw[hs']at hl;cases hs:H.slot id<;>rw[hs]at hl<;>exact hl.elim
    |mp s g=>trivial
    |live o'=>
     rw[hs']at hl;cases hs:H.slot id with
     |live o=>
      rw[hs]at hl h2;obtain⟨a,b,c,d⟩:=hl;simp only[qca hm]at h2 ⊢;rw[a,b,c,d];exact h2
     |qae=>rw[hs]at hl;exact hl.elim
     |dead=>rw[hs]at hl;exact hl.elim
     |mp _ _=>rw[hs]at hl;exact hl.elim
  |qcd id=>
   rintro v ⟨_,h0⟩ ⟨h1,h2⟩
   refine⟨h1,?_⟩;rcases low id (fun e=>by rw[e]at h0;exact h0)with hu|hd|⟨hm,hl⟩
   ·rw[hu]at h2;exact h2.elim
   ·rw[hd];trivial
   ·cases hs':H'.slot id with
    |dead=>trivial
    |qae=>rw[hs']at hl;cases hs:H.slot id<;>rw[hs]at hl<;>exact hl.elim
    |live o'=>trivial
    |mp s g=>
     rw[hs']at hl;cases hs:H.slot id with
     |mp _ _=>rw[hs]at h2;simp only[qca hm];exact h2
     |qae=>rw[hs]at hl;exact hl.elim
     |dead=>rw[hs]at hl;exact hl.elim
     |live _=>rw[hs]at hl;exact hl.elim
  |fn f n cap ih=>
   rintro v ⟨cs,h1,h2,h3⟩ ⟨cs',h1',h2',h3'⟩
   rw[h1]at h1';injection h1' with _ _ h1';subst h1';refine⟨cs,h1,h2,fun j hj=>?_⟩;obtain⟨c,a,b⟩:=h3 j hj;obtain⟨c',a',b'⟩:=h3' j hj;rw[a]at a';injection a' with a';subst a';exact⟨c,a,ih j _ b b'⟩
  |agg n get ih=>
   rintro v ⟨cs,h1,h2,h3⟩ ⟨cs',h1',h2',h3'⟩
   rw[h1]at h1';injection h1' with h1';subst h1';refine⟨cs,h1,h2,fun j hj=>?_⟩;obtain⟨c,a,p,b⟩:=h3 j hj;obtain⟨c',a',p',b'⟩:=h3' j hj;rw[a]at a';injection a' with a';subst a';exact⟨c,a,p,ih j _ b b'⟩
  |tup n get ih=>
   rintro v ⟨cs,h1,h2,h3⟩ ⟨cs',h1',h2',h3'⟩
   rw[h1]at h1';injection h1' with h1';subst h1';refine⟨cs,h1,h2,fun j hj=>?_⟩;obtain⟨c,a,b⟩:=h3 j hj;obtain⟨c',a',b'⟩:=h3' j hj;rw[a]at a';injection a' with a';subst a';exact⟨c,a,ih j _ b b'⟩
  |un=>exact fun _ _ _=>trivial
  |und=>exact fun _ _ h=>h
  |t x=>exact fun _ _ h=>Reads.mono hF (fun _ _=>rfl) _ _ h
  |qby=>exact fun _ _ h=>h
  |qej=>exact fun _ _ h=>h
  |qek=>exact fun _ _ h=>h
  |qel=>exact fun _ _ h=>h
  |fp m g=>
   rintro v _ ⟨b,o,h1,h2,h3⟩
   exact⟨b,o,h1,hF b h2,fun j hj=>by obtain⟨c,a,b⟩:=h3 j hj;exact⟨c,a,Reads.mono hF (fun _ _=>rfl) _ _ b⟩⟩
 exact fun u v h=>key u v h (r.ext u v h)
theorem Gen.rel{E:Env}{M:Id->Option Nat}{F:Nat->Prop}{H H':qbe}{m:Id->Option Id}{Z:Id->Prop}{w:World}(r:qc4 E M F H w)(k:Gen H H' m Z) :
  qc4 E (mι m M) (FZ H M Z F) H' w:=by
 have is:∀id b,(H'.slot id).is->mι m M id=some b->∃x,m id=some x/\M x=some b/\(H.slot x).is/\¬ Z x:=fun id b h hb=>by
  obtain⟨x,hx,hxb⟩:=qpx hb;cases hs:H'.slot id with
  |live o'=>
   rcases k.obj id o' hs with⟨h1,_⟩|⟨y,o,hy,ho,hz,_⟩
   ·rw[h1]at hx;cases hx
   ·rw[hy]at hx;injection hx with hx;subst hx;exact⟨y,hy,hxb,by rw[ho];trivial,hz⟩
  |mp s g=>obtain⟨y,g',hy,ho,hz,_⟩:=k.mp id s g hs;rw[hy]at hx;injection hx with hx;subst hx;exact⟨y,hy,hxb,by rw[ho];trivial,hz⟩
  |qae=>rw[hs]at h;exact h.elim
  |dead=>rw[hs]at h;exact h.elim
 refine⟨r.os,r.tape,r.output,r.size,r.kept,fun id o' h=>?_,fun id s g h=>?_,fun i j b h h' hi hj=>?_,
  fun i b h hi=>?_,fun i b h hi=>?_,fun i b h hi=>?_,fun b hb=>?_,fun b hb=>?_,k.next,Gen.ext r k,by rw[k.lo];exact r.lo⟩
 ·rcases k.obj id o' h with⟨h1,h2⟩|⟨x,o,hm,ho,hz,he,hs,hn,hg⟩
  ·refine⟨by rw[h2];exact Nat.zero_le _,?_⟩
   rw[qve h1];exact h2
  ·obtain⟨h1,h2⟩:=r.obj _ o ho;refine⟨zhy hn h1,?_⟩;rw[qca hm];cases hk:M x with
   |none=>rw[hk]at h2;have h2:o.n=0:=h2;show o'.n=0;omega
   |some b=>
    rw[hk]at h2;obtain⟨cur,g1,g2,g3⟩:=h2;dsimp only;rw[he,hs];exact⟨cur,g1,zhy (zie _ hn) g2,fun i hi j hj=>by obtain⟨c,a,b,d⟩:=g3 i (by omega) j hj;exact⟨c,a,b,hg i hi j (by omega) _ _ _ _ _ r d⟩⟩
 ·obtain⟨x,g',hm,hg,hz,hk⟩:=k.mp id s g h;obtain⟨b,es,clock,g1,g2,g3,g4⟩:=r.qxx _ s g' hg;refine⟨b,es,clock,(qca hm).trans g1,g2,g3,fun key hkey=>?_⟩;have:=g4 key hkey;rcases hk key with⟨e1,e2⟩|⟨u,u',e1,e2,e3⟩
  ·rw[e1]at this;rw[e2];exact this
  ·rw[e1]at this;rw[e2];obtain⟨n,e,a,b,c⟩:=this;exact⟨n,e,a,b,e3 _ _ _ _ _ r c⟩
 ·obtain⟨x,hx1,hx2,hx3,_⟩:=is i b h hi;obtain⟨y,hy1,hy2,hy3,_⟩:=is j b h' hj;obtain rfl:=r.inj x y b hx3 hy3 hx2 hy2;exact k.inj i j x h h' hx1 hy1
 ·obtain⟨x,hx1,hx2,hx3,hx4⟩:=is i b h hi
  rintro(hf|⟨j,hz,hj,hb⟩)
  ·exact r.qto _ b hx3 hx2 hf
  ·exact hx4 (by rw[r.inj _ _ b hx3 hj hx2 hb];exact hz)
 ·obtain⟨x,hx1,hx2,hx3,hx4⟩:=is i b h hi;exact r.own _ b hx3 hx2
 ·obtain⟨x,hx1,hx2,hx3,hx4⟩:=is i b h hi;exact r.lt _ b hx3 hx2
 ·rcases hb with hf|⟨j,hz,hj,hb⟩
  ·exact r.qno b hf
  ·exact r.lt j b hj hb
 ·rcases hb with hf|⟨j,hz,hj,hb⟩
  ·exact r.qxc b hf
  ·rcases r.own j b hj hb with h|h
   ·exact .inr (.inl h)
   ·exact .inr (.inr h)
theorem qgs.gen{st st':St}(m:Id->Option Id)(Z:Id->Prop)(hn:st'.nt=st.nt)(k:Gen st.heap st'.heap m Z)(he:∀t,KG st.heap st'.heap m Z (st.env t) (st'.env t)):qgs st st':=fun E M F a w r=>
 ⟨_,_,⟨Gen.rel r.h k,fun t=>he t _ _ _ _ _ r.h (r.env t),r.nt.trans hn.symm,r.defers⟩⟩
section
variable {H H':qbe} {m:Id->Option Id} {Z:Id->Prop}
theorem KG.un{u:V}:KG H H' m Z u .un:=fun _ _ _ _ _ _ _=>trivial
theorem KG.und:KG H H' m Z .und .und:=fun _ _ _ _ _ _ h=>h
theorem KG.t(x:T):KG H H' m Z (.t x) (.t x):=fun _ _ _ _ _ _ h=>Reads.mono (fun _ h=>.inl h) (fun _ _=>rfl) _ _ h
theorem KG.qby:KG H H' m Z .qby .qby:=fun _ _ _ _ _ _ h=>h
theorem KG.qej:KG H H' m Z .qej .qej:=fun _ _ _ _ _ _ h=>h
theorem KG.qek:KG H H' m Z .qek .qek:=fun _ _ _ _ _ _ h=>h
theorem KG.qel:KG H H' m Z .qel .qel:=fun _ _ _ _ _ _ h=>h
theorem KG.fp{n:Nat}{g:Nat->T}:KG H H' m Z (.fp n g) (.fp n g):=fun _ _ _ _ _ _ ⟨b,o,h1,h2,h3⟩=>
 ⟨b,o,h1,.inl h2,fun j hj=>by obtain⟨c,a,b⟩:=h3 j hj;exact⟨c,a,Reads.mono (fun _ h=>.inl h) (fun _ _=>rfl) _ _ b⟩⟩
theorem KG.agg{n:Nat}{g g':Nat->V}(h:∀j,j<n->KG H H' m Z (g j) (g' j)):KG H H' m Z (.agg n g) (.agg n g'):=fun E M F w v r ⟨cs,h1,h2,h3⟩=>
 ⟨cs,h1,h2,fun j hj=>by obtain⟨c,a,p,b⟩:=h3 j hj;exact⟨c,a,p,h j hj _ _ _ _ _ r b⟩⟩
theorem KG.tup{n:Nat}{g g':Nat->V}(h:∀j,j<n->KG H H' m Z (g j) (g' j)):KG H H' m Z (.tup n g) (.tup n g'):=fun E M F w v r ⟨cs,h1,h2,h3⟩=>
 ⟨cs,h1,h2,fun j hj=>by obtain⟨c,a,b⟩:=h3 j hj;exact⟨c,a,h j hj _ _ _ _ _ r b⟩⟩
theorem KG.fn{f:FuncId}{n:Nat}{g g':Nat->V}(h:∀j,j<n->KG H H' m Z (g j) (g' j)):KG H H' m Z (.fn f n g) (.fn f n g'):=fun E M F w v r ⟨cs,h1,h2,h3⟩=>
 ⟨cs,h1,h2,fun j hj=>by obtain⟨c,a,b⟩:=h3 j hj;exact⟨c,a,h j hj _ _ _ _ _ r b⟩⟩
theorem KG.dead{i:Id}(hd:H'.slot i=.dead){ver r c:Nat}{u:V}(hu:∀E M F w v,qc4 E M F H w->qay H M F w u v->v.oneCell'=true):KG H H' m Z u (.ptr i ver r c):=fun E M F w v r h=>
 ⟨hu _ _ _ _ _ r h,by rw[hd];trivial⟩
theorem KG.ptr{i j:Id}{ver ver' r c:Nat}{o o':qcu}(h:H.slot i=.live o)(h':H'.slot j=.live o')(hm:m j=some i)(hv:ver=o.ver)(hv':ver'=o'.ver)(hz:o'.sz=o.sz) :
  KG H H' m Z (.ptr i ver r c) (.ptr j ver' r c):=fun E M F w v _ ⟨h0,h1⟩=>by
 rw[h]at h1;refine⟨h0,?_⟩;rw[h'];refine⟨zij hv',fun _=>?_⟩;rw[qca hm,hz];exact h1.2 hv
theorem KG.qbq{i j:Id}{ver ver' r len:Nat}{o o':qcu}(h:H.slot i=.live o)(h':H'.slot j=.live o')(hm:m j=some i)(hv:ver=o.ver)(hv':ver'=o'.ver)(hz:o'.sz=o.sz)(he:o'.elem=o.elem)(hn:r+len<=o'.n) :
  KG H H' m Z (.qbq i ver r len) (.qbq j ver' r len):=fun E M F w v _ ⟨h0,h1⟩=>by
 rw[h]at h1;refine⟨h0,?_⟩;rw[h'];refine⟨zij hv',fun _=>⟨hn,?_⟩⟩;rw[qca hm,hz,he];exact(h1.2 hv).2
theorem KG.zc9{j:Id}{ver':Nat}{o':qcu}(h':H'.slot j=.live o')(hv':ver'=o'.ver):KG H H' m Z .qby (.qbq j ver' 0 0):=fun E M F w v _ h=>by
 have h:v=.slice none 0 0:=h;subst h;refine⟨rfl,?_⟩;rw[h'];exact⟨zij hv',fun _=>⟨Nat.zero_le _,none,0,rfl,zg3 _,fun h=>absurd h (zio _)⟩⟩
theorem KG.qcd{i j:Id}{s s':Bool}{g g':qce->Option V}(h:H.slot i=.mp s g)(h':H'.slot j=.mp s' g')(hm:m j=some i) :
  KG H H' m Z (.qcd i) (.qcd j):=fun E M F w v _ ⟨h0,h1⟩=>by
 rw[h]at h1;refine⟨h0,?_⟩;rw[h'];rw[qca hm];exact h1
theorem KG.zer{u u1 u':V}(h:KG H H' m Z u u1)(k:∀H M F w c,qay H M F w u1 c->qay H M F w u' c):KG H H' m Z u u':=fun E M F w v r hv=>k _ _ _ _ _ (h E M F w v r hv)
theorem KG.qhy{u u1 u':V}(k:∀H M F w c,qay H M F w u c->qay H M F w u1 c)(h:KG H H' m Z u1 u'):KG H H' m Z u u':=fun E M F w v r hv=>h E M F w v r (k _ _ _ _ _ hv)
end
end Go.Abs
namespace Go.Abs
open Go
variable {P:Program} {Q:Exit->St->Prop} {st:St} {L:List GOp} {d:Option Tmp} {ty:TypeId} {K:St->Prop}
structure TyC where
 agg:Bool:=false
 sz:Nat:=0
 fields:List (Nat×Bool×Nat):=[]
 sl:Option (TypeId×Nat×Nat):=none
 desc:Option TypeDesc:=none
 zero:Option Value:=none
def nth{α:Type}:List α->Nat->Option α
 |[],_=>none
 |a::_,0=>some a
 |_::l,n+1=>nth l n
structure TyC.Ok(P:Program)(t:TypeId)(c:TyC):Prop where
 sz:Nat.blt 0 c.sz=true->qb6 P t c.agg c.sz
 fld:∀f off a s,nth c.fields f=some (off,a,s)->qan P t f off a s
 sl:∀e s b,c.sl=some (e,s,b)->qb2 P t e s b
 desc:∀x,c.desc=some x->qdx P t x
 zero:∀v,c.zero=some v->qbb P t v
class Tys(P:Program) where
 c:TypeId->TyC
 ok:∀t,TyC.Ok P t (c t)
def qdo:IntKind->IntKind->Bool
 |.i8,.i8=>true
 |.i16,.i16=>true
 |.i32,.i32=>true
 |.i64,.i64=>true
 |.u8,.u8=>true
 |.u16,.u16=>true
 |.u32,.u32=>true
 |.u64,.u64=>true
 |_,_=>false
theorem qcx{a b:IntKind}(h:qdo a b=true):a=b:=by cases a<;>cases b<;>first|rfl|cases h
def qpg(s:ByteArray)(i:Nat):Int:=((s.data.toList.getD i 0).toNat:Int)
theorem O.min'{ats:Array TypeId}{x y:Operand}{k:IntKind}{m n:Int}(hx:st.eval x=.t (.int k m))(hy:st.eval y=.t (.int k n)) :
  QV P ⟨d,.call { callee:=.builtin .min,args:=#[x,y],argTypes:=ats },ty,none⟩ (.t (.int k (if n<m then n else m))) st:=fun E M F a w r=>
 ⟨_,by simp[execOp,GOp.oper,resolve,invoke,builtin,Builtin.min_,Builtin.min2,qb5 r hx,qb5 r hy],rfl⟩
theorem O.max'{ats:Array TypeId}{x y:Operand}{k:IntKind}{m n:Int}(hx:st.eval x=.t (.int k m))(hy:st.eval y=.t (.int k n)) :
  QV P ⟨d,.call { callee:=.builtin .max,args:=#[x,y],argTypes:=ats },ty,none⟩ (.t (.int k (if n>m then n else m))) st:=fun E M F a w r=>
 ⟨_,by simp[execOp,GOp.oper,resolve,invoke,builtin,Builtin.max_,Builtin.max2,qb5 r hx,qb5 r hy],rfl⟩
theorem qin{E:Env}{M:Id->Option Nat}{F:Nat->Prop}{a:Act}{w:World}(r:Rel E M F st a w){x:Operand}{s:ByteArray}(h:st.eval x=.t (.str s)):a.eval x=.string s:=by
 have:=r.eval x;rw[h]at this;exact this.1
theorem O.zfd{tx tY:TypeId}[ht:qdx P tx .bool]{x y:Operand}{m n:Bool}(hx:st.eval x=.t (.bool m))(hy:st.eval y=.t (.bool n)):QV P ⟨d,.binOp .eql tx x y tY,ty,none⟩ (.t (.bool (m==n))) st:=fun E M F a w r=>by
 refine⟨.bool (m==n),?_,rfl⟩;have hg:(eqGuard .eql tx x y (.bool m) (.bool n)).run P w=.ok () w:=by unfold eqGuard;rfl
 simp[execOp,GOp.oper,qhc r hx,qhc r hy,hg,run_eql_bool w _ _ _ ht.d]
theorem O.zet{tx tY:TypeId}[ht:qdx P tx .bool]{x y:Operand}{m n:Bool}(hx:st.eval x=.t (.bool m))(hy:st.eval y=.t (.bool n)):QV P ⟨d,.binOp .neq tx x y tY,ty,none⟩ (.t (.bool (!(m==n)))) st:=fun E M F a w r=>by
 refine⟨.bool (!(m==n)),?_,rfl⟩;have hg:(eqGuard .neq tx x y (.bool m) (.bool n)).run P w=.ok () w:=by unfold eqGuard;rfl
 simp[execOp,GOp.oper,qhc r hx,qhc r hy,hg,run_neq_bool w _ _ _ ht.d]
theorem O.q81{tx tY:TypeId}{x y:Operand}{m n:ByteArray}(hx:st.eval x=.t (.str m))(hy:st.eval y=.t (.str n)):QV P ⟨d,.binOp .eql tx x y tY,ty,none⟩ (.t (.bool (m.toList==n.toList))) st:=fun E M F a w r=>by
 refine⟨.bool (m.toList==n.toList),?_,rfl⟩;have hg:(eqGuard .eql tx x y (.string m) (.string n)).run P w=.ok () w:=by unfold eqGuard;rfl
 simp[execOp,GOp.oper,qin r hx,qin r hy,hg,binOp_string_eql]
theorem O.q8e{tx tY:TypeId}{x y:Operand}{m n:ByteArray}(hx:st.eval x=.t (.str m))(hy:st.eval y=.t (.str n)):QV P ⟨d,.binOp .neq tx x y tY,ty,none⟩ (.t (.bool (!(m.toList==n.toList)))) st:=fun E M F a w r=>by
 refine⟨.bool (!(m.toList==n.toList)),?_,rfl⟩;have hg:(eqGuard .neq tx x y (.string m) (.string n)).run P w=.ok () w:=by unfold eqGuard;rfl
 simp[execOp,GOp.oper,qin r hx,qin r hy,hg,binOp_string_neq]
theorem q3y{s:ByteArray}{i:Nat}(h:i<s.size):((s[i]'h).toNat:Int)=qpg s i:=by
 have hs:i<s.data.toList.length:=by simpa using h
 have:s.data.toList.getD i 0=s[i]:=by
  rw[zg0,zhb hs];rfl
 rw[qpg,this]
theorem qb6.of'[T:Tys P]{t:TypeId}{a:Bool}(h:Nat.blt 0 (Tys.c P t).sz=true)(e:(Tys.c P t).agg=a):qb6 P t a (Tys.c P t).sz:=e▸(T.ok t).sz h
theorem qbl{a b:Nat}(h:Nat.beq a b=true):a=b:=zg2 h
theorem toList_eq{α:Type}{a:Array α}{l:List α}(h:a.toList=l):a=l.toArray:=by subst h;simp
end Go.Abs
namespace Go.Abs
open Go
variable {P:Program} {Q:Exit->St->Prop} {st:St} {L:List GOp} {d:Option Tmp} {ty:TypeId} {K:St->Prop}
def q4x:Op->Bool
 |.move _=>true
 |.assign _=>true
 |.pick _ _ _=>true
 |.load _ _=>true
 |.fieldAddr _ _ _=>true
 |.indexAddr _ _ _=>true
 |.binOp _ _ _ _ _=>true
 |.unOp _ _ _=>true
 |.convert _ _ _=>true
 |.extract _ _=>true
 |.nilCheck _=>true
 |.field _ _ _=>true
 |.index _ _ _=>true
 |.call c=>match c.callee with
  |.builtin .len=>true
  |.builtin .min=>true
  |.builtin .max=>true
  |_=>false
 |_=>false
def q2l(P:Program)(t:TypeId):List (Nat×Bool×Nat)->Nat->Prop
 |[],_=>True
 |(off,a,s)::l,i=>qan P t i off a s/\q2l P t l (i+1)
theorem qsc{P:Program}{t:TypeId}:∀ {l:List (Nat×Bool×Nat)} {i:Nat},q2l P t l i->∀f off a s,nth l f=some (off,a,s)->qan P t (i+f) off a s
 |[],i,h,f,off,a,s,hn=>by cases hn
 |x::l,i,h,0,off,a,s,hn=>by cases hn;exact h.1
 |x::l,i,h,f+1,off,a,s,hn=>by
  have:=qsc h.2 f off a s hn;rwa [show i+(f+1)=i+1+f by omega]
theorem qi5{P:Program}{t:TypeId}{l:List (Nat×Bool×Nat)}(h:q2l P t l 0)(f off:Nat)(a:Bool)(s:Nat)(hn:nth l f=some (off,a,s)):qan P t f off a s:=by
 have:=qsc h f off a s hn;rwa [zg9]at this
theorem qbr{P:Program}{t:TypeId}{b:Bool}{x y:TyC}(h1:TyC.Ok P t x)(h2:TyC.Ok P t y):TyC.Ok P t (bif b then x else y):=by cases b<;>assumption
theorem qbo{P:Program}{t n:TypeId}{x:TyC}(h:TyC.Ok P n x):TyC.Ok P t (bif Nat.beq t n then x else {}):=by
 cases hb:Nat.beq t n with
 |true=>obtain rfl:=zg2 hb;exact h
 |false=>exact⟨fun h=>(by cases h),fun f off a s h=>(by cases h),fun e s b h=>(by cases h),fun x h=>(by cases h),fun v h=>(by cases h)⟩
end Go.Abs
set_option linter.unusedSectionVars false
namespace Go.Abs
open Go
def Wk(u u':V):Prop:=∀H M F w c,qay H M F w u c->qay H M F w u' c
theorem Wk.refl(u:V):Wk u u:=fun _ _ _ _ _ h=>h
theorem Wk.of_eq{u u':V}(h:u=u'):Wk u u':=h▸Wk.refl u
theorem Wk.trans{a b c:V}(h:Wk a b)(k:Wk b c):Wk a c:=fun H M F w x hx=>k H M F w x (h H M F w x hx)
theorem Wk.un(u:V):Wk u .un:=fun _ _ _ _ _ _=>trivial
theorem Wk.qby(sz:Nat)(g:Nat->Nat->T):Wk .qby (.t (.sl sz 0 g)):=fun H M F w c h=>⟨Option.none,0,h,zg3 _,by simp[LEN],fun h=>absurd h (zio _)⟩
theorem Wk.agg{n:Nat}{g g':Nat->V}(h:∀j,j<n->Wk (g j) (g' j)):Wk (.agg n g) (.agg n g'):=fun H M F w c ⟨cs,h1,h2,h3⟩=>
 ⟨cs,h1,h2,fun j hj=>by obtain⟨c,a,p,b⟩:=h3 j hj;exact⟨c,a,p,h j hj H M F w c b⟩⟩
theorem Wk.fp{m m':Nat}{g g':Nat->T}(hm:m'<=m)(h:∀j,j<m'->g' j=g j):Wk (.fp m g) (.fp m' g'):=fun H M F w c ⟨b,o,h1,h2,h3⟩=>
 ⟨b,o,h1,h2,fun j hj=>by rw[h j hj];exact h3 j (by omega)⟩
inductive Ty where
 |bool
 |int (k:IntKind)
 |str
 |st (i:Nat)
 |sl (e:Ty)
 |ol (t:TypeId) (e:Ty)
deriving DecidableEq
class SU where
 D:Nat->Type
 z:(i:Nat)->D i
 sz:Nat->Nat
 enc:(i:Nat)->D i->Nat->T
section
variable [SU]
@[reducible] def Ty.D:Ty->Type
 |.bool=>Bool
 |.int _=>Int
 |.str=>ByteArray
 |.st i=>SU.D i
 |.sl e=>List e.D
 |.ol _ e=>List e.D
def Ty.z:(N:Ty)->N.D
 |.bool=>false
 |.int _=>(0:Int)
 |.str=>ByteArray.empty
 |.st i=>SU.z i
 |.sl _=>[]
 |.ol _ _=>[]
def Ty.sz:Ty->Nat
 |.st i=>SU.sz i
 |_=>1
def Ty.zf3:Ty->Bool
 |.st _=>true
 |_=>false
def qj6:(N:Ty)->N.D->Nat->T
 |.bool,x,_=>.bool x
 |.int k,x,_=>.int k x
 |.str,x,_=>.str x
 |.st i,x,c=>SU.enc i x c
 |.sl e,l,_=>.sl e.sz (List.length (α:=e.D) l) (fun r c=>qj6 e (List.getD (α:=e.D) l r e.z) c)
 |.ol _ e,l,_=>.sl e.sz (List.length (α:=e.D) l) (fun r c=>qj6 e (List.getD (α:=e.D) l r e.z) c)
def qx0(e:Ty)(l:List e.D):T:=.sl e.sz l.length (fun r c=>qj6 e (l.getD r e.z) c)
def qt2:(D:Nat->Type)->(i j:Nat)->D i->Option (D j)
 |_,0,0,x=>some x
 |D,i+1,j+1,x=>qt2 (fun n=>D (n+1)) i j x
 |_,_,_,_=>none
theorem qi9:∀(D:Nat->Type) (i j:Nat) (x:D i) (y:D j),qt2 D i j x=some y->i=j/\HEq x y
 |_,0,0,x,y,h=>by injection h with h;subst h;exact⟨rfl,HEq.rfl⟩
 |D,i+1,j+1,x,y,h=>by
  obtain⟨h1,h2⟩:=qi9 (fun n=>D (n+1)) i j x y h;exact⟨by rw[h1],h2⟩
 |_,0,j+1,x,y,h=>by cases h
 |_,i+1,0,x,y,h=>by cases h
def qbt:(F:Type->Type)->(N τ':Ty)->F N.D->Option (F τ'.D)
 |_,.bool,.bool,x=>some x
 |_,.int k,.int k',x=>bif qdo k k' then some x else none
 |_,.str,.str,x=>some x
 |F,.st i,.st j,x=>qt2 (fun i=>F (SU.D i)) i j x
 |F,.sl e,.sl e',x=>qbt (fun X=>F (List X)) e e' x
 |F,.ol t e,.ol t' e',x=>bif Nat.beq t t' then qbt (fun X=>F (List X)) e e' x else none
 |_,_,_,_=>none
theorem qja:∀(F:Type->Type) (N τ':Ty) (x:F N.D) (y:F τ'.D),qbt F N τ' x=some y->N=τ'/\HEq x y
 |F,N,τ',x,y,h=>by
  cases N<;>cases τ'<;>simp only[qbt]at h<;>try(cases h;done)
  ·injection h with h;subst h;exact⟨rfl,HEq.rfl⟩
  ·rename_i k k';cases hk:qdo k k' with
   |false=>rw[hk]at h;cases h
   |true=>
    have:=qcx hk;subst this;rw[hk]at h;injection h with h;subst h;exact⟨rfl,HEq.rfl⟩
  ·injection h with h;subst h;exact⟨rfl,HEq.rfl⟩
  ·rename_i i j;obtain⟨rfl,h2⟩:=qi9 _ _ _ _ _ h;exact⟨rfl,h2⟩
  ·rename_i e e';obtain⟨rfl,h2⟩:=qja _ _ _ _ _ h;exact⟨rfl,h2⟩
  ·rename_i t e t' e';cases hb:Nat.beq t t' with
   |false=>rw[hb]at h;cases h
   |true=>
    rw[hb]at h;obtain rfl:=zg2 hb;obtain⟨rfl,h2⟩:=qja _ _ _ _ _ h;exact⟨rfl,h2⟩
theorem qa0{N τ':Ty}{x:List N.D}{y:List τ'.D}(h:qbt List N τ' x=some y):N=τ'/\HEq x y:=qja List N τ' x y h
theorem qwc{N τ':Ty}{x:N.D}{y:τ'.D}(h:qbt (fun X=>X) N τ' x=some y):N=τ'/\HEq x y:=qja (fun X=>X) N τ' x y h
inductive EV where
 |un
 |und
 |b (x:Bool)
 |i (k:IntKind) (n:Int)
 |s (x:ByteArray)
 |fz (N:Ty) (l:List N.D)
 |fp (N:Ty) (x:N.D) (c:Nat)
 |st (i:Nat) (x:SU.D i)
 |ptr (id:Nat) (p:List Nat) (r c:Nat)
 |qbq (id:Nat) (p:List Nat) (r n:Nat)
 |qa5 (id:Nat) (p:List Nat)
 |qby
 |qej
 |qek
 |qel
 |qji
 |qcd (id:Nat)
 |agg (l:List EV)
 |tup (l:List EV)
 |fn (f:FuncId) (l:List EV)
abbrev Len:=Nat->List Nat->Option Nat
mutual
def toV(len:Len):EV->V
 |.un=>.un
 |.und=>.und
 |.b x=>.t (.bool x)
 |.i k n=>.t (.int k n)
 |.s x=>.t (.str x)
 |.fz N l=>.t (qx0 N l)
 |.fp N x c=>.fp (N.sz-c) (fun j=>qj6 N x (j+c))
 |.st i x=>.agg (SU.sz i) (fun j=>.t (SU.enc i x j))
 |.ptr id p r c=>.ptr ⟨id,p⟩ 0 r c
 |.qbq id p r n=>.qbq ⟨id,p⟩ 0 r n
 |.qa5 id p=>match len id p with
  |some n=>.qbq ⟨id,p⟩ 0 0 n
  |none=>.qbq ⟨id,p⟩ 0 0 0
 |.qby=>.qby
 |.qej=>.qej
 |.qek=>.qek
 |.qel=>.qel
 |.qji=>.t .q4h
 |.qcd id=>.qcd ⟨id,[]⟩
 |.agg l=>.agg l.length (qa3 len l)
 |.tup l=>.tup l.length (qa3 len l)
 |.fn f l=>.fn f l.length (qa3 len l)
def qa3(len:Len):List EV->Nat->V
 |[],_=>.un
 |a::_,0=>toV len a
 |_::l,j+1=>qa3 len l j
end
theorem qde(len:Len):∀(l:List EV) (j:Nat),qa3 len l j=toV len (l.getD j .un)
 |[],j=>by simp[qa3,toV]
 |a::l,0=>by simp[qa3]
 |a::l,j+1=>by simp only[qa3];rw[qde len l j];simp
def EV.dat:EV->Bool
 |.un=>true
 |.b _=>true
 |.i _ _=>true
 |.s _=>true
 |.fz _ _=>true
 |.qby=>true
 |.qej=>true
 |.qek=>true
 |.qel=>true
 |.qji=>true
 |_=>false
theorem EV.qm9{u:EV}(h:u.dat=true)(len len':Len):toV len u=toV len' u:=by
 cases u<;>first|(cases h;done)|(simp only[toV];done)
inductive Cell where
 |ev (u:EV)
 |own (t:TypeId) (e:Ty) (l:List e.D)
end
class qa2[SU] where
 fro:Nat->Bool
 cell:(i:Nat)->SU.D i->Nat->Cell
 set:(i:Nat)->SU.D i->Nat->EV->Option (SU.D i)
 zda:(i:Nat)->SU.D i->Nat->(t:TypeId)->(e:Ty)->List e.D->Option (SU.D i)
 make:(i:Nat)->List EV->Option (SU.D i)
 qed:∀i x j,fro i=true->∃u,cell i x j=.ev u/\(j<SU.sz i->∀len,toV len u=.t (SU.enc i x j))
 q6d:∀i x j v y,set i x j v=some y->(∃u0,cell i x j=.ev u0)/\(∃u,cell i y j=.ev u/\∀len,Wk (toV len v) (toV len u))/\∀j',j'≠j->cell i y j'=cell i x j'
 qy9:∀i x j t e l y,zda i x j t e l=some y->(∃l0,cell i x j=.own t e l0)/\cell i y j=.own t e l/\∀j',j'≠j->cell i y j'=cell i x j'
 qwb:∀i x j u,cell i x j=.ev u->u.dat=true
 qhs:∀i j t e l,cell i (SU.z i) j=.own t e l->l=[]
 qp1:∀i l y,make i l=some y->l.length=SU.sz i/\∀j,j<SU.sz i->∃u,cell i y j=.ev u/\∀len,Wk (qa3 len l j) (toV len u)
 zdd:Nat->Nat->Option (TypeId×Ty)
 zdf:(i:Nat)->SU.D i->Nat->(e:Ty)->Option (List e.D)
 zde:(i:Nat)->SU.D i->Nat->(t:TypeId)->(e:Ty)->List e.D->Option (SU.D i)
 zfb:Nat->Nat->Option Ty
 zfc:(i:Nat)->SU.D i->Nat->(e:Ty)->Option (List e.D)
 qz7:∀i x j t e l,zdd i j=some (t,e)->zdf i x j e=some l->cell i x j=.own t e l
 qz6:∀i x j t e l y,zde i x j t e l=some y->cell i y j=.own t e l/\∀j',j'≠j->cell i y j'=cell i x j'
 q6l:∀i x j t e l0 t' e' l y,zdd i j=some (t,e)->zdf i x j e=some l0->zde i x j t' e' l=some y->zda i x j t' e' l=some y
 q05:∀i x j e l,zfb i j=some e->zfc i x j e=some l->cell i x j=.ev (.fz e l)
 q8y:(i:Nat)->SU.D i->Nat->Option (SU.D i)
 qv0:∀i x j y,q8y i x j=some y->cell i y j=.ev .un/\∀j',j'≠j->cell i y j'=cell i x j'
 upF:(i j:Nat)->Option (SU.D i->SU.D j)
 zab:∀i j f,upF i j=some f->SU.sz j=SU.sz i/\f (SU.z i)=SU.z j/\∀x c,cell j (f x) c=cell i x c
section
variable [SU] [qa2]
def qam:(N:Ty)->N.D->Nat->Cell
 |.st i,x,c=>qa2.cell i x c
 |.bool,x,0=>.ev (.b x)
 |.int k,x,0=>.ev (.i k x)
 |.str,x,0=>.ev (.s x)
 |.sl e,l,0=>.ev (.fz e l)
 |.ol t e,l,0=>.own t e l
 |.bool,_,_+1=>.ev .un
 |.int _,_,_+1=>.ev .un
 |.str,_,_+1=>.ev .un
 |.sl _,_,_+1=>.ev .un
 |.ol _ _,_,_+1=>.ev .un
def qj2:Ty->Bool
 |.st i=>qa2.fro i
 |.ol _ _=>false
 |_=>true
theorem qdt:∀(N:Ty) (x:N.D) (c:Nat),qj2 N=true->∃u,qam N x c=.ev u/\(c<N.sz->∀len,toV len u=.t (qj6 N x c))
 |.bool,x,0,_=>⟨_,rfl,fun _ len=>by simp only[toV,qj6]⟩
 |.int k,x,0,_=>⟨_,rfl,fun _ len=>by simp only[toV,qj6]⟩
 |.str,x,0,_=>⟨_,rfl,fun _ len=>by simp only[toV,qj6]⟩
 |.st i,x,c,h=>qa2.qed i x c h
 |.sl e,l,0,h=>⟨_,rfl,fun _ len=>by simp only[toV,qj6,qx0]⟩
 |.bool,x,c+1,_=>⟨_,rfl,fun h=>absurd h (by simp[Ty.sz])⟩
 |.int k,x,c+1,_=>⟨_,rfl,fun h=>absurd h (by simp[Ty.sz])⟩
 |.str,x,c+1,_=>⟨_,rfl,fun h=>absurd h (by simp[Ty.sz])⟩
 |.sl e,l,c+1,_=>⟨_,rfl,fun h=>absurd h (by simp[Ty.sz])⟩
 |.ol _ _,_,_,h=>by cases h
def qww:(N:Ty)->N.D->Nat->EV->Option N.D
 |.st i,x,c,v=>qa2.set i x c v
 |.bool,_,0,.b y=>some y
 |.int k,_,0,.i k' n=>bif qdo k k' then some n else none
 |.str,_,0,.s y=>some y
 |.sl e,_,0,.fz e' l=>qbt List e' e l
 |.sl e,_,0,.qby=>some []
 |_,_,_,_=>none
theorem sz1{N:Ty}(h:N.zf3=false):N.sz=1:=by cases N<;>first|rfl|cases h
theorem qlw:∀(N:Ty) (x:N.D) (c:Nat) (v:EV) (y:N.D),qww N x c v=some y ->
  (∃u0,qam N x c=.ev u0)/\(∃u,qam N y c=.ev u/\∀len,Wk (toV len v) (toV len u))/\∀c',c'≠c->qam N y c'=qam N x c'
 |.bool,x,c,v,y,h=>by
  cases c<;>cases v<;>simp only[qww]at h<;>first
   |(cases h;done)
   |(injection h with h;subst h;exact⟨⟨_,rfl⟩,⟨_,rfl,fun len=>Wk.refl _⟩,fun c' h2=>by cases c'<;>first|exact absurd rfl h2|rfl⟩)
 |.int k,x,c,v,y,h=>by
  cases c<;>cases v<;>simp only[qww]at h<;>try(cases h;done)
  rename_i k' n;cases hk:qdo k k' with
  |false=>rw[hk]at h;cases h
  |true=>
   have:=qcx hk;subst this;rw[hk]at h;simp only[cond_true]at h;injection h with h;subst h
   exact⟨⟨_,rfl⟩,⟨_,rfl,fun len=>Wk.refl _⟩,fun c' h2=>by cases c'<;>first|exact absurd rfl h2|rfl⟩
 |.str,x,c,v,y,h=>by
  cases c<;>cases v<;>simp only[qww]at h<;>first
   |(cases h;done)
   |(injection h with h;subst h;exact⟨⟨_,rfl⟩,⟨_,rfl,fun len=>Wk.refl _⟩,fun c' h2=>by cases c'<;>first|exact absurd rfl h2|rfl⟩)
 |.st i,x,c,v,y,h=>by
  simp only[qww]at h;exact qa2.q6d i x c v y h
 |.sl e,x,c,v,y,h=>by
  cases c<;>cases v<;>simp only[qww]at h<;>try(cases h;done)
  ·rename_i e' l;obtain⟨rfl,h⟩:=qa0 h;obtain rfl:=eq_of_heq h
   exact⟨⟨_,rfl⟩,⟨_,rfl,fun len=>Wk.refl _⟩,fun c' h2=>by cases c'<;>first|exact absurd rfl h2|rfl⟩
  ·injection h with h;subst h
   refine⟨⟨_,rfl⟩,⟨_,rfl,fun len=>?_⟩,fun c' h2=>by cases c'<;>first|exact absurd rfl h2|rfl⟩
   simp only[toV,qx0];exact Wk.qby _ _
 |.ol _ _,x,c,v,y,h=>by cases c<;>cases v<;>cases h
def qwv:(N:Ty)->N.D->Nat->(t:TypeId)->(e:Ty)->List e.D->Option N.D
 |.st i,x,c,t,e,l=>qa2.zda i x c t e l
 |.ol t' e',_,0,t,e,l=>bif Nat.beq t t' then qbt List e e' l else none
 |_,_,_,_,_,_=>none
theorem quu:∀(N:Ty) (x:N.D) (c:Nat) (t:TypeId) (e:Ty) (l:List e.D) (y:N.D),qwv N x c t e l=some y ->
  (∃l0,qam N x c=.own t e l0)/\qam N y c=.own t e l/\∀c',c'≠c->qam N y c'=qam N x c'
 |.st i,x,c,t,e,l,y,h=>qa2.qy9 i x c t e l y h
 |.ol t' e',x,0,t,e,l,y,h=>by
  simp only[qwv]at h;cases hb:Nat.beq t t' with
  |false=>rw[hb]at h;cases h
  |true=>
   rw[hb]at h;obtain rfl:=zg2 hb;obtain⟨rfl,h⟩:=qa0 h;obtain rfl:=eq_of_heq h
   exact⟨⟨_,rfl⟩,rfl,fun c' h2=>by cases c'<;>first|exact absurd rfl h2|rfl⟩
 |.ol _ _,_,_+1,_,_,_,_,h=>by cases h
 |.bool,_,_,_,_,_,_,h=>by cases h
 |.int _,_,_,_,_,_,_,h=>by cases h
 |.str,_,_,_,_,_,_,h=>by cases h
 |.sl _,_,_,_,_,_,_,h=>by cases h
theorem qbf:∀(N:Ty) (x:N.D) (c:Nat) (u:EV),qam N x c=.ev u->u.dat=true
 |.st i,x,c,u,h=>qa2.qwb i x c u h
 |.bool,x,c,u,h=>by cases c<;>(injection h with h;subst h;rfl)
 |.int _,x,c,u,h=>by cases c<;>(injection h with h;subst h;rfl)
 |.str,x,c,u,h=>by cases c<;>(injection h with h;subst h;rfl)
 |.sl _,x,c,u,h=>by cases c<;>(injection h with h;subst h;rfl)
 |.ol _ _,x,0,u,h=>by cases h
 |.ol _ _,x,_+1,u,h=>by injection h with h;subst h;rfl
theorem qn0:∀(N:Ty) (c:Nat) (t:TypeId) (e:Ty) (l:List e.D),qam N N.z c=.own t e l->l=[]
 |.st i,c,t,e,l,h=>qa2.qhs i c t e l h
 |.ol t' e',0,t,e,l,h=>by
  simp only[qam,Ty.z]at h;injection h with h1 h2 h3;subst h2;exact(eq_of_heq h3).symm
 |.ol _ _,_+1,_,_,_,h=>by cases h
 |.bool,c,_,_,_,h=>by cases c<;>cases h
 |.int _,c,_,_,_,h=>by cases c<;>cases h
 |.str,c,_,_,_,h=>by cases c<;>cases h
 |.sl _,c,_,_,_,h=>by cases c<;>cases h
def qrq:Ty->Nat->Option (TypeId×Ty)
 |.st i,c=>qa2.zdd i c
 |.ol t e,0=>some (t,e)
 |_,_=>none
def qrr:(N:Ty)->N.D->Nat->(e:Ty)->Option (List e.D)
 |.st i,x,c,e=>qa2.zdf i x c e
 |.ol _ e',l,0,e=>qbt List e' e l
 |_,_,_,_=>none
def qtj:(N:Ty)->N.D->Nat->(t:TypeId)->(e:Ty)->List e.D->Option N.D
 |.st i,x,c,t,e,l=>qa2.zde i x c t e l
 |.ol t' e',_,0,t,e,l=>bif Nat.beq t t' then qbt List e e' l else none
 |_,_,_,_,_,_=>none
def zci:Ty->Nat->Option Ty
 |.st i,c=>qa2.zfb i c
 |_,_=>none
def zcj:(N:Ty)->N.D->Nat->(e:Ty)->Option (List e.D)
 |.st i,x,c,e=>qa2.zfc i x c e
 |_,_,_,_=>none
theorem qk4:∀(N:Ty) (x:N.D) (c:Nat) (t:TypeId) (e:Ty) (l:List e.D),qrq N c=some (t,e)->qrr N x c e=some l->qam N x c=.own t e l
 |.st i,x,c,t,e,l,h1,h2=>qa2.qz7 i x c t e l h1 h2
 |.ol t' e',x,0,t,e,l,h1,h2=>by
  injection h1 with h1;injection h1 with h1 h3;subst h1;subst h3;obtain⟨_,h⟩:=qa0 h2;obtain rfl:=eq_of_heq h;rfl
 |.ol _ _,_,_+1,_,_,_,h,_=>by cases h
 |.bool,_,_,_,_,_,h,_=>by cases h
 |.int _,_,_,_,_,_,h,_=>by cases h
 |.str,_,_,_,_,_,h,_=>by cases h
 |.sl _,_,_,_,_,_,h,_=>by cases h
theorem qpt:∀(N:Ty) (x:N.D) (c:Nat) (t:TypeId) (e:Ty) (l:List e.D) (y:N.D),qtj N x c t e l=some y->qam N y c=.own t e l/\∀c',c'≠c->qam N y c'=qam N x c'
 |.st i,x,c,t,e,l,y,h=>qa2.qz6 i x c t e l y h
 |.ol t' e',x,0,t,e,l,y,h=>by
  simp only[qtj]at h;cases hb:Nat.beq t t' with
  |false=>rw[hb]at h;cases h
  |true=>
   rw[hb]at h;obtain rfl:=zg2 hb;obtain⟨rfl,h⟩:=qa0 h;obtain rfl:=eq_of_heq h
   exact⟨rfl,fun c' h2=>by cases c'<;>first|exact absurd rfl h2|rfl⟩
 |.ol _ _,_,_+1,_,_,_,_,h=>by cases h
 |.bool,_,_,_,_,_,_,h=>by cases h
 |.int _,_,_,_,_,_,_,h=>by cases h
 |.str,_,_,_,_,_,_,h=>by cases h
 |.sl _,_,_,_,_,_,_,h=>by cases h
theorem q77:∀(N:Ty) (x:N.D) (c:Nat) (t:TypeId) (e:Ty) (l0:List e.D) (t':TypeId) (e':Ty) (l:List e'.D) (y:N.D),qrq N c=some (t,e)->qrr N x c e=some l0->qtj N x c t' e' l=some y->qwv N x c t' e' l=some y
 |.st i,x,c,t,e,l0,t',e',l,y,h1,h2,h3=>qa2.q6l i x c t e l0 t' e' l y h1 h2 h3
 |.ol _ _,_,0,_,_,_,_,_,_,_,_,_,h=>h
 |.ol _ _,_,_+1,_,_,_,_,_,_,_,h,_,_=>by cases h
 |.bool,_,_,_,_,_,_,_,_,_,h,_,_=>by cases h
 |.int _,_,_,_,_,_,_,_,_,_,h,_,_=>by cases h
 |.str,_,_,_,_,_,_,_,_,_,h,_,_=>by cases h
 |.sl _,_,_,_,_,_,_,_,_,_,h,_,_=>by cases h
theorem q40:∀(N:Ty) (x:N.D) (c:Nat) (e:Ty) (l:List e.D),zci N c=some e->zcj N x c e=some l->qam N x c=.ev (.fz e l)
 |.st i,x,c,e,l,h1,h2=>qa2.q05 i x c e l h1 h2
 |.ol _ _,_,_,_,_,h,_=>by cases h
 |.bool,_,_,_,_,h,_=>by cases h
 |.int _,_,_,_,_,h,_=>by cases h
 |.str,_,_,_,_,h,_=>by cases h
 |.sl _,_,_,_,_,h,_=>by cases h
structure LV where
 e:TypeId
 N:Ty
 l:List N.D
def LV.row(v:LV)(r:Nat):v.N.D:=v.l.getD r v.N.z
def LV.kid(v:LV)(c r:Nat):Option LV:=match qam v.N (v.l.getD r v.N.z) c with
 |.own t e l=>some ⟨t,e,l⟩
 |.ev _=>none
def LV.at:LV->List Nat->Option LV
 |v,[]=>some v
 |v,c::r::p=>match v.kid c r with
  |some k=>LV.at k p
  |none=>none
 |_,[_]=>none
theorem LV.qa6(v:LV):v.at []=some v:=by unfold LV.at;rfl
theorem LV.qbu(v:LV)(c r:Nat)(p:List Nat):v.at (c::r::p)=match v.kid c r with
  |some k=>LV.at k p
  |none=>none:=by rw[LV.at]
theorem LV.qfi(v:LV)(c:Nat):v.at [c]=none:=by rw[LV.at]
theorem LV.qgl:∀(p:List Nat) (v w:LV),v.l=[]->v.at p=some w->w.l=[]
 |[],v,w,h,ha=>by rw[LV.qa6]at ha;injection ha with ha;exact ha▸h
 |[_],v,w,h,ha=>by rw[LV.qfi]at ha;cases ha
 |c::r::p,v,w,h,ha=>by
  rw[LV.qbu]at ha;cases hk:v.kid c r with
  |none=>rw[hk]at ha;cases ha
  |some k=>
   rw[hk]at ha;refine LV.qgl p k w ?_ ha;unfold LV.kid at hk;rw[h]at hk;simp only[List.getD_nil]at hk;split at hk
   ·rename_i t e l hc;injection hk with hk;subst hk;exact qn0 _ _ _ _ _ hc
   ·cases hk
def LV.setRow(v:LV)(r:Nat)(y:v.N.D):LV:=⟨v.e,v.N,v.l.set r y⟩
def LV.put:LV->List Nat->LV->Option LV
 |_,[],w=>some w
 |v,c::r::p,w=>match v.kid c r with
  |some k=>match LV.put k p w with
   |some k'=>match qwv v.N (v.l.getD r v.N.z) c k'.e k'.N k'.l with
    |some y=>some ⟨v.e,v.N,v.l.set r y⟩
    |none=>none
   |none=>none
  |none=>none
 |_,[_],_=>none
def Cell.Sim:Cell->Cell->Prop
 |.ev u,.ev u'=>u=u'
 |.own t e l,.own t' e' l'=>t=t'/\e=e'/\l.length=l'.length
 |_,_=>False
theorem Cell.Sim.rfl(x:Cell):x.Sim x:=by cases x<;>simp[Cell.Sim]
structure LV.Alike(a a':LV)(P:Nat->Nat->Prop):Prop where
 e:a'.e=a.e
 N:a'.N=a.N
 n:a'.l.length=a.l.length
 c:∀r c,¬ P r c->(qam a.N (a.row r) c).Sim (qam a'.N (a'.row r) c)
theorem LV.Alike.refl(a:LV)(P:Nat->Nat->Prop):a.Alike a P:=⟨rfl,rfl,rfl,fun _ _ _=>Cell.Sim.rfl _⟩
theorem LV.qgh{v k:LV}{c r:Nat}(h:v.kid c r=some k):qam v.N (v.row r) c=.own k.e k.N k.l:=by
 unfold LV.kid at h;split at h
 ·rename_i t e l hc;injection h with h;subst h;exact hc
 ·cases h
theorem LV.qd8{v:LV}{c r:Nat}{t:TypeId}{e:Ty}{l:List e.D}(h:qam v.N (v.row r) c=.own t e l):v.kid c r=some ⟨t,e,l⟩:=by
 unfold LV.kid;unfold LV.row at h;rw[h]
theorem qi4{α:Type}{l:List α}{r:Nat}{y z:α}(h:r<l.length):(l.set r y).getD r z=y:=by simp[zg0,h]
theorem getD_set_ne{α:Type}{l:List α}{r i:Nat}{y z:α}(h:i≠r):(l.set r y).getD i z=l.getD i z:=by
 rw[zg0,zg0,List.getElem?_set_ne (fun e=>h e.symm)]
theorem LV.qbx{v:LV}{r:Nat}{y:v.N.D}(h:r<v.l.length)(i:Nat):(v.setRow r y).row i=if i=r then y else v.row i:=by
 unfold LV.row LV.setRow;by_cases hi:i=r
 ·subst hi;rw[if_pos rfl];exact qi4 h
 ·rw[if_neg hi];exact getD_set_ne hi
theorem LV.qmm{v v':LV}{c r:Nat}(h:qam v'.N (v'.row r) c=qam v.N (v.row r) c):v'.kid c r=v.kid c r:=by
 unfold LV.kid;unfold LV.row at h;rw[h]
theorem LV.qlu{v:LV}{r c:Nat}{y:v.N.D}(hr:r<v.l.length)(hs:(qam v.N (v.row r) c).Sim (qam v.N y c)\/True)(hy:∀c',c'≠c->qam v.N y c'=qam v.N (v.row r) c') :
  ∀q,¬ ([c,r] <+: q)->((v.setRow r y).at q=none/\v.at q=none)\/∃a a',v.at q=some a/\(v.setRow r y).at q=some a'/\a.Alike a' (fun r' c'=>q=[]/\r'=r/\c'=c)
 |[],_=>by
  refine .inr ⟨v,v.setRow r y,LV.qa6 _,LV.qa6 _,rfl,rfl,by simp[LV.setRow],fun r' c' hn=>?_⟩;have e:(v.setRow r y).row r'=if r'=r then y else v.row r':=LV.qbx hr r';show(qam v.N (v.row r') c').Sim (qam v.N ((v.setRow r y).row r') c');rw[e];by_cases h1:r'=r
  ·subst h1;rw[if_pos rfl,hy c' (fun h2=>hn ⟨rfl,rfl,h2⟩)];exact Cell.Sim.rfl _
  ·rw[if_neg h1];exact Cell.Sim.rfl _
 |[x],_=>.inl ⟨LV.qfi _ _,LV.qfi _ _⟩
 |c2::r2::q,hq=>by
  have hk:(v.setRow r y).kid c2 r2=v.kid c2 r2:=by
   refine LV.qmm ?_;have e:(v.setRow r y).row r2=if r2=r then y else v.row r2:=LV.qbx hr r2;show qam v.N ((v.setRow r y).row r2) c2=_;rw[e];by_cases h1:r2=r
   ·subst h1;rw[if_pos rfl];refine hy c2 (fun h2=>hq ?_);subst h2;exact⟨q,rfl⟩
   ·rw[if_neg h1]
  rw[LV.qbu,LV.qbu,hk];cases v.kid c2 r2 with
  |none=>exact .inl ⟨rfl,rfl⟩
  |some k=>
   show(LV.at k q=none/\LV.at k q=none)\/_;cases h:LV.at k q with
   |none=>exact .inl ⟨rfl,rfl⟩
   |some a=>exact .inr ⟨a,a,h,h,LV.Alike.refl _ _⟩
theorem LV.qu5{v w v':LV}{c r:Nat}{p:List Nat}(h:v.put (c::r::p) w=some v') :
  ∃k k' y,v.kid c r=some k/\LV.put k p w=some k'/\qwv v.N (v.row r) c k'.e k'.N k'.l=some y/\v'=v.setRow r y:=by
 rw[LV.put]at h;cases hk:v.kid c r with
 |none=>rw[hk]at h;cases h
 |some k=>
  rw[hk]at h;simp only at h;cases hp:LV.put k p w with
  |none=>rw[hp]at h;cases h
  |some k'=>
   rw[hp]at h;simp only at h;cases hy:qwv v.N (v.l.getD r v.N.z) c k'.e k'.N k'.l with
   |none=>rw[hy]at h;cases h
   |some y=>rw[hy]at h;injection h with h;exact⟨k,k',y,rfl,hp,hy,h.symm⟩
theorem LV.qu4:∀(p:List Nat) (v w0 v':LV) (r c:Nat) (y:w0.N.D),v.at p=some w0->r<w0.l.length->(∀c',c'≠c->qam w0.N y c'=qam w0.N (w0.row r) c')->v.put p (w0.setRow r y)=some v' ->
  v'.at p=some (w0.setRow r y)/\(∀q,¬ (p++[c,r] <+: q)->(v'.at q=none/\v.at q=none)\/∃a a',v.at q=some a/\v'.at q=some a'/\a.Alike a' (fun r' c'=>q=p/\r'=r/\c'=c))/\v'.e=v.e/\v'.N=v.N
 |[],v,w0,v',r,c,y,ha,hr,hy,hp=>by
  rw[LV.qa6]at ha;injection ha with ha;subst ha;rw[LV.put]at hp;injection hp with hp;subst hp;exact⟨LV.qa6 _,LV.qlu hr (.inr trivial) hy,rfl,rfl⟩
 |[x],v,w0,v',r,c,y,ha,hr,hy,hp=>by rw[LV.qfi]at ha;cases ha
 |c1::r1::p,v,w0,v',r,c,y,ha,hr,hy,hp=>by
  obtain⟨k,k',y1,hk,hp1,hs,rfl⟩:=LV.qu5 hp;rw[LV.qbu,hk]at ha;have ha:LV.at k p=some w0:=ha;obtain⟨i1,i2,i3,i4⟩:=LV.qu4 p k w0 k' r c y ha hr hy hp1;obtain⟨⟨l0,s1⟩,s2,s3⟩:=quu _ _ _ _ _ _ _ hs;have hkc:=LV.qgh hk;have hr1:r1<v.l.length:=by
   refine Classical.byContradiction fun hn=>?_;have e:v.row r1=v.N.z:=by unfold LV.row;rw[zg0,ziw (by omega)];rfl
   rw[e]at hkc;have hz:=qn0 _ _ _ _ _ hkc;have:=LV.qgl p k w0 hz ha;rw[this]at hr;simp at hr
  have hkid:(v.setRow r1 y1).kid c1 r1=some k':=by
   have e:(v.setRow r1 y1).row r1=y1:=by rw[LV.qbx hr1,if_pos rfl]
   have:=LV.qd8 (v:=v.setRow r1 y1) (c:=c1) (r:=r1) (t:=k'.e) (e:=k'.N) (l:=k'.l) (by rw[e];exact s2)
   exact this
  refine⟨by rw[LV.qbu,hkid];exact i1,fun q hq=>?_,rfl,rfl⟩
  by_cases hpre:[c1,r1] <+: q
  ·obtain⟨s,rfl⟩:=hpre;show((v.setRow r1 y1).at (c1::r1::s)=none/\v.at (c1::r1::s)=none)\/_;rw[LV.qbu,hkid,LV.qbu,hk];rcases i2 s (fun h=>hq (by obtain⟨z,rfl⟩:=h;exact⟨z,by simp⟩))with h|⟨a,a',h1,h2,h3⟩
   ·exact .inl h
   ·refine .inr ⟨a,a',by rw[zh9,zh9,zhv,LV.qbu,hk];exact h1,by rw[zh9,zh9,zhv,LV.qbu,hkid];exact h2,h3.e,h3.N,h3.n,fun r' c' hn=>h3.c r' c' (fun⟨e1,e2,e3⟩=>hn ⟨by rw[e1];rfl,e2,e3⟩)⟩
  ·rcases LV.qlu (v:=v) (r:=r1) (c:=c1) (y:=y1) hr1 (.inr trivial) s3 q hpre with h|⟨a,a',h1,h2,h3⟩
   ·exact .inl h
   ·refine .inr ⟨a,a',h1,h2,h3.e,h3.N,h3.n,fun r' c' hn=>?_⟩;by_cases hc:q=[]/\r'=r1/\c'=c1
    ·obtain⟨rfl,rfl,rfl⟩:=hc;rw[LV.qa6]at h1 h2;injection h1 with h1;subst h1;injection h2 with h2;subst h2;have e:(v.setRow r' y1).row r'=y1:=by rw[LV.qbx hr1,if_pos rfl]
     rw[e,hkc];show(Cell.own k.e k.N k.l).Sim (qam v.N y1 c');rw[s2]
     -- the kid's length stays
     have hlen:k'.l.length=k.l.length/\k'.e=k.e/\k'.N=k.N:=by
      refine⟨?_,i3,i4⟩;rcases i2 [] (fun h=>by simp at h)with⟨_,h⟩|⟨a,a',h1,h2,h3⟩
      ·rw[LV.qa6]at h;cases h
      ·rw[LV.qa6]at h1 h2;injection h1 with h1;subst h1;injection h2 with h2;subst h2;exact h3.n
     exact⟨hlen.2.1.symm,hlen.2.2.symm,hlen.1.symm⟩
    ·exact h3.c r' c' hc
end
end Go.Abs
namespace Go.Abs
open Go
noncomputable section
def okB(p:Prop):Bool:=@decide p (Classical.propDecidable p)
theorem ql9{p:Prop}(h:p):okB p=true:=@decide_eq_true p (Classical.propDecidable p) h
theorem qc5{p:Prop}(h:okB p=true):p:=@of_decide_eq_true p (Classical.propDecidable p) h
variable {P:Program} {d:Option Tmp} {ty:TypeId}
section
variable [SU] [qa2]
inductive OD where
 |none
 |dead
 |lst (v:LV)
 |cells (e:TypeId) (l:List EV)
 |hole (v:LV) (q:List Nat) (r c:Nat) (u:EV)
 |mp (s:Bool) (N:Ty) (g:qce->Option N.D)
structure qad where
 next:Nat
 lo:Nat
 obj:Nat->OD
 md:List TypeId:=[]
def qad.at(H:qad)(k:Nat)(p:List Nat):Option LV:=match H.obj k with
 |.lst v=>v.at p
 |_=>none
def OD.len:OD->List Nat->Option Nat
 |.lst v,p=>match v.at p with
  |some a=>some a.l.length
  |Option.none=>Option.none
 |.cells _ _,[]=>some 1
 |.hole v _ _ _ _,p=>match v.at p with
  |some a=>some a.l.length
  |Option.none=>Option.none
 |_,_=>Option.none
def qad.len(H:qad):Len:=fun k p=>(H.obj k).len p
theorem qad.qf1{H:qad}{k:Nat}{p:List Nat}{v:LV}(h:H.at k p=some v):H.len k p=some v.l.length:=by
 unfold qad.at at h;unfold qad.len;split at h
 ·rename_i w ho;rw[ho];simp only[OD.len,h]
 ·cases h
structure ESt where
 nt:Nat
 env:Nat->EV
 heap:qad
def qbd(len:Len)(k:Nat)(p:List Nat)(r c:Nat):Cell->V
 |.ev u=>toV len u
 |.own _ _ l=>.qbq ⟨k,p++[c,r]⟩ 0 0 l.length
def LV.obj(len:Len)(k:Nat)(p:List Nat)(v:LV):qcu:={ elem:=v.e,sz:=v.N.sz,ver:=0,n:=v.l.length,get:=fun r c=>qbd len k p r c (qam v.N (v.row r) c) }
def LV.qj0(len:Len)(k:Nat)(p:List Nat)(v:LV)(q:List Nat)(r c:Nat)(u:EV):qcu:=
 { elem:=v.e,sz:=v.N.sz,ver:=0,n:=v.l.length,get:=fun r' c'=>if p=q/\r'=r/\c'=c then toV len u else qbd len k p r' c' (qam v.N (v.row r') c') }
def OD.slot(len:Len)(k:Nat):OD->List Nat->Slot
 |.none,_=>.qae
 |.dead,_=>.dead
 |.lst v,p=>match v.at p with
  |some a=>.live (a.obj len k p)
  |Option.none=>.qae
 |.cells e l,[]=>.live { elem:=e,sz:=l.length,ver:=0,n:=1,get:=fun _ c=>qa3 len l c }
 |.cells _ _,_::_=>.qae
 |.hole v q r c u,p=>if q++[c,r] <+: p then .dead else match v.at p with
  |some a=>.live (a.qj0 len k p q r c u)
  |Option.none=>.qae
 | .mp s N g,[]=>.mp s (fun x=>match g x with
  |some y=>some (.t (qj6 N y 0))
  | Option.none=>Option.none)
 |.mp _ _ _,_::_=>.qae
def toH(H:qad):qbe:=⟨H.next,fun id=>(H.obj id.k).slot H.len id.k id.p,H.lo⟩
def qbc(s:ESt):St:=⟨s.nt,fun t=>toV s.heap.len (s.env t),toH s.heap⟩
theorem qb3{H:qad}{k:Nat}{p:List Nat}{v:LV}(h:H.at k p=some v):(toH H).slot ⟨k,p⟩=.live (v.obj H.len k p):=by
 unfold qad.at at h;show(H.obj k).slot H.len k p=_;split at h
 ·rename_i w ho;rw[ho];simp only[OD.slot,h]
 ·cases h
theorem qc9{H:qad}{k:Nat}{e:TypeId}{l:List EV}(h:H.obj k=.cells e l):(toH H).slot ⟨k,[]⟩=.live { elem:=e,sz:=l.length,ver:=0,n:=1,get:=fun _ c=>qa3 H.len l c }:=by
 show(H.obj k).slot H.len k []=_;rw[h];rfl
theorem LV.qbv:∀(p:List Nat) (v a:LV) (q:List Nat),v.at p=some a->v.at (p++q)=a.at q
 |[],v,a,q,h=>by rw[LV.qa6]at h;injection h with h;rw[h];rfl
 |[_],v,a,q,h=>by rw[LV.qfi]at h;cases h
 |c::r::p,v,a,q,h=>by
  rw[LV.qbu]at h;rw[zh9,zh9,LV.qbu];cases hk:v.kid c r with
  |none=>rw[hk]at h;cases h
  |some k=>
   rw[hk]at h;exact LV.qbv p k a q h
theorem qad.qbv{H:qad}{k:Nat}{p q:List Nat}{a:LV}(h:H.at k p=some a):H.at k (p++q)=a.at q:=by
 unfold qad.at at h ⊢;split at h
 ·exact LV.qbv _ _ _ _ h
 ·cases h
theorem LV.at_one(v:LV)(c r:Nat):v.at [c,r]=v.kid c r:=by
 rw[LV.qbu];cases v.kid c r with
 |none=>rfl
 |some k=>exact LV.qa6 k
def qdr:Value->EV
 |.bool b=>.b b
 |.int k n=>.i k n
 |.string s=>bif Nat.ble s.size 9223372036854775807 then .s s else .un
 |.slice Option.none 0 0=>.qby
 |.pointer Option.none=>.qej
 |.map Option.none=>.qek
 |.nilFunc=>.qel
 |.nilIface=>.qji
 |_=>.un
theorem qc7(len:Len)(v:Value):toV len (qdr v)=V.cell v:=by
 unfold qdr V.cell
 split<;>try(simp only[toV];done)
 rename_i s;cases h:Nat.ble s.size 9223372036854775807<;>simp only[h,cond_true,cond_false,toV]
def qs0:Value->EV
 |.agg cs=>bif cs.all (·.oneCell')then .agg (cs.toList.map qdr)else .un
 |v=>qdr v
theorem q80(len:Len)(v:Value):Wk (V.ofValue v) (toV len (qs0 v)):=by
 unfold V.ofValue;split
 ·rename_i cs;simp only[qs0];cases h:cs.all (·.oneCell')
  ·exact Wk.un _
  ·simp only[cond_true,toV,zha,zit];refine Wk.agg fun j hj=>Wk.of_eq ?_;rw[qde];simp[zg0,hj,zhl,qc7]
 ·rename_i hv;have:qs0 v=qdr v:=by
   cases v<;>first|rfl|exact absurd rfl (hv _)
  rw[this,qc7];exact Wk.refl _
def ESt.eval(s:ESt):Operand->EV
 |.tmp t=>s.env t
 |.const v=>qs0 v
 |.global _=>.un
 |.func f=>.fn f []
theorem ESt.qdj(s:ESt)(x:Operand):Wk ((qbc s).eval x) (toV s.heap.len (s.eval x)):=by
 cases x with
 |tmp t=>exact Wk.refl _
 |const v=>exact q80 _ v
 |global g=>exact Wk.un _
 |func f=>simp only[St.eval,ESt.eval,toV,zg7];exact fun H M F w c ⟨cs,h1,h2,h3⟩=>⟨cs,h1,h2,fun j hj=>absurd hj (zhf _)⟩
def ESt.put(s:ESt)(d:Option Tmp)(v:EV):ESt:=match d with
 |Option.none=>s
 |some d=>{ s with env:=fun t=>bif Nat.beq t d then(bif Nat.blt d s.nt then v else .un)else s.env t }
theorem qaw(s:ESt)(d:Option Tmp)(v:EV):qbc (s.put d v)=(qbc s).put d (toV s.heap.len v):=by
 cases d with
 |none=>rfl
 |some d=>
  simp only[qbc,ESt.put,St.put];congr 1;funext t;cases Nat.beq t d with
  |false=>rfl
  |true=>cases Nat.blt d s.nt<;>simp[toV]
theorem QV.wk{g:GOp}{u u':V}{st:St}(h:QV P g u st)(k:Wk u u'):QV P g u' st:=fun E M F a w r=>by
 obtain⟨v,h1,h2⟩:=h E M F a w r;exact⟨v,h1,k _ _ _ _ _ h2⟩
def EV.isAgg:EV->Bool
 |.agg _=>true
 |.fn _ _=>true
 |_=>false
theorem eval_eq{s:ESt}{x:Operand}{u:EV}(h:s.eval x=u)(hu:u.isAgg=false):(qbc s).eval x=toV s.heap.len u:=by
 subst h;cases x with
 |tmp t=>rfl
 |const v=>
  show V.ofValue v=toV _ (qs0 v);unfold V.ofValue;split
  ·rename_i cs;simp only[ESt.eval,qs0]at hu ⊢;cases h:cs.all (·.oneCell')with
   |false=>simp only[cond_false,toV]
   |true=>rw[h]at hu;cases hu
  ·rename_i hv;have:qs0 v=qdr v:=by
    cases v<;>first|rfl|exact absurd rfl (hv _)
   rw[this,qc7]
 |global g=>simp only[St.eval,ESt.eval,toV]
 |func f=>cases hu
variable {ρ:Type}
def grd(b:Bool)(x:Option ρ):Option ρ:=bif b then x else none
def ixO(m:Int)(n:Nat)(K:Nat->Option ρ):Option ρ:=grd (okB (0<=m/\m<n)) (K m.toNat)
def wrO(k:IntKind)(z:Int)(K:Int->Option ρ):Option ρ:=match k with
 |.i64=>grd (okB (-9223372036854775808<=z/\z<=9223372036854775807)) (K z)
 |k=>K (k.wrap z)
theorem qbs{b:Bool}{x:Option ρ}{r:ρ}(h:grd b x=some r):b=true/\x=some r:=by
 cases b
 ·cases h
 ·exact⟨rfl,h⟩
theorem qp8{m:Int}{n:Nat}{K:Nat->Option ρ}{r:ρ}(h:ixO m n K=some r):(0<=m/\m<n)/\K m.toNat=some r:=by
 obtain⟨h1,h2⟩:=qbs h;exact⟨qc5 h1,h2⟩
theorem qli{k:IntKind}{z:Int}{K:Int->Option ρ}{r:ρ}(h:wrO k z K=some r):K (k.wrap z)=some r:=by
 unfold wrO at h;split at h
 ·obtain⟨h1,h2⟩:=qbs h;have h1:=qc5 h1;rw[qd2 h1.1 h1.2];exact h2
 ·exact h
theorem qaf{b:Bool}{x:Option ρ}{r:ρ}(h:(bif b then x else none)=some r):b=true/\x=some r:=qbs h
def fE(u:EV)(K:EV->Option ρ):Option ρ:=match u with
 |.un=>K .un
 |.und=>K .und
 |.b x=>K (.b x)
 |.i k n=>K (.i k n)
 |.s x=>K (.s x)
 |.fz N l=>K (.fz N l)
 |.fp N x c=>K (.fp N x c)
 |.st i x=>K (.st i x)
 |.ptr id p r c=>K (.ptr id p r c)
 |.qbq id p r n=>K (.qbq id p r n)
 |.qa5 id p=>K (.qa5 id p)
 |.qby=>K .qby
 |.qej=>K .qej
 |.qek=>K .qek
 |.qel=>K .qel
 |.qji=>K .qji
 |.qcd id=>K (.qcd id)
 |.agg l=>K (.agg l)
 |.tup l=>K (.tup l)
 |.fn f l=>K (.fn f l)
theorem qj4(u:EV)(K:EV->Option ρ):fE u K=K u:=by cases u<;>rfl
def qhb(k:Nat)(p:List Nat)(N:Ty)(x:N.D)(r c:Nat):EV:=match qam N x c with
 |.ev u=>u
 |.own _ _ _=>.qa5 k (p++[c,r])
def qc3(k:Nat)(p:List Nat)(N:Ty)(x:N.D)(r c:Nat):Nat->List EV
 |0=>[]
 |n+1=>qhb k p N x r c::qc3 k p N x r (c+1) n
theorem qb0(k:Nat)(p:List Nat)(N:Ty)(x:N.D)(r:Nat):∀n c,(qc3 k p N x r c n).length=n
 |0,c=>rfl
 |n+1,c=>by simp[qc3,qb0 k p N x r n]
theorem qds(len:Len)(k:Nat)(p:List Nat)(N:Ty)(x:N.D)(r:Nat):∀n c j,j<n->qa3 len (qc3 k p N x r c n) j=toV len (qhb k p N x r (c+j))
 |0,c,j,h=>absurd h (zhf _)
 |n+1,c,0,h=>by simp[qc3,qa3]
 |n+1,c,j+1,h=>by
  simp only[qc3,qa3];rw[qds len k p N x r n (c+1) j (by omega)];congr 2;omega
def qu0(k:Nat)(p:List Nat)(N:Ty)(x:N.D)(r c n:Nat)(K:EV->Option ρ):Option ρ:=match N,x with
 |.st i,x=>bif Nat.beq n (SU.sz i)then(bif Nat.beq c 0 then(bif qa2.fro i then K (.st i x)else K (.agg (qc3 k p (.st i) x r c n)))else K (.agg (qc3 k p (.st i) x r c n)))else K (.agg (qc3 k p (.st i) x r c n))
 |N,x=>K (.agg (qc3 k p N x r c n))
theorem qoa{len:Len}{k:Nat}{p:List Nat}{N:Ty}{x:N.D}{r c n:Nat}{K:EV->Option ρ}{res:ρ}(h:qu0 k p N x r c n K=some res){g:Nat->V}(hg:∀j,j<n->Wk (g j) (toV len (qhb k p N x r (c+j)))) :
  ∃u,Wk (.agg n g) (toV len u)/\K u=some res:=by
 have key:K (.agg (qc3 k p N x r c n))=some res->∃u,Wk (.agg n g) (toV len u)/\K u=some res:=fun k'=>⟨_,by
  simp only[toV,qb0];exact Wk.agg fun j hj=>by rw[qds len k p N x r n c j hj];exact hg j hj,k'⟩
 cases N with
 |st i=>
  simp only[qu0]at h;cases h1:Nat.beq n (SU.sz i)with
  |false=>rw[h1]at h;exact key h
  |true=>
   cases h2:Nat.beq c 0 with
   |false=>rw[h1,h2]at h;exact key h
   |true=>
    cases h3:qa2.fro i with
    |false=>rw[h1,h2,h3]at h;exact key h
    |true=>
     rw[h1,h2,h3]at h;obtain rfl:=qbl h1;obtain rfl:=qbl h2;refine⟨.st i x,?_,h⟩;simp only[toV];exact Wk.agg fun j hj=>by
      have:=hg j hj;rw[zg9]at this;obtain⟨u,e1,e2⟩:=qa2.qed i x j h3;have e2:=e2 hj;simp only[qhb,qam,e1]at this;rw[e2]at this;exact this
 |_=>exact key h
theorem qne{H:qad}{k:Nat}{p:List Nat}{v:LV}(h:H.at k p=some v)(r c:Nat):toV H.len (qhb k p v.N (v.row r) r c)=qbd H.len k p r c (qam v.N (v.row r) c):=by
 unfold qhb;cases hc:qam v.N (v.row r) c with
 |ev u=>rfl
 |own t e l=>
  simp only[toV,qbd];have:H.at k (p++[c,r])=some ⟨t,e,l⟩:=by
   rw[qad.qbv h,LV.at_one];exact LV.qd8 hc
  rw[qad.qf1 this]
theorem qif{len:Len}{k:Nat}{p:List Nat}{N:Ty}{x:N.D}{r c:Nat}(hf:qj2 N=true)(hc:c<N.sz):toV len (qhb k p N x r c)=.t (qj6 N x c):=by
 obtain⟨u,e1,e2⟩:=qdt N x c hf;simp only[qhb,e1,e2 hc]
def qdb:List EV->Nat->EV
 |[],_=>.un
 |a::_,0=>a
 |_::l,n+1=>qdb l n
theorem qey(len:Len):∀(l:List EV) (n:Nat),toV len (qdb l n)=qa3 len l n
 |[],n=>by simp[qdb,qa3,toV]
 |a::l,0=>by simp[qdb,qa3]
 |a::l,n+1=>by simp only[qdb,qa3];exact qey len l n
def q85(l:List EV)(c:Nat):Nat->List EV
 |0=>[]
 |n+1=>qdb l c::q85 l (c+1) n
theorem qv9(l:List EV):∀n c,(q85 l c n).length=n
 |0,c=>rfl
 |n+1,c=>by simp[q85,qv9 l n]
theorem q1s(len:Len)(l:List EV):∀n c j,j<n->qa3 len (q85 l c n) j=qa3 len l (c+j)
 |0,c,j,h=>absurd h (zhf _)
 |n+1,c,0,h=>by simp[q85,qa3,qey]
 |n+1,c,j+1,h=>by
  simp only[q85,qa3];rw[q1s len l n (c+1) j (by omega)];congr 1;omega
def qak{α ρ:Type}(x:Option α)(K:α->Option ρ):Option ρ:=match x with
 |some y=>K y
 |none=>none
theorem qb9{α:Type}{x:Option α}{K:α->Option ρ}{r:ρ}(h:qak x K=some r):∃y,x=some y/\K y=some r:=by
 cases x with
 |none=>cases h
 |some y=>exact⟨y,rfl,h⟩
def LV.qpd:LV->List Nat->(LV->(LV->Option LV)->Option ρ)->Option ρ
 |v,[],K=>K v some
 |v,c::r::p,K=>match qrq v.N c with
  | some (t,e)=>qak (qrr v.N (v.l.getD r v.N.z) c e) fun l=>LV.qpd ⟨t,e,l⟩ p fun a back=>K a (fun w=>match back w with
   | some k'=>(match qtj v.N (v.l.getD r v.N.z) c k'.e k'.N k'.l with
    |some y=>some ⟨v.e,v.N,v.l.set r y⟩
    | none=>none)
   | none=>none)
  |none=>none
 |_,[_],_=>none
theorem LV.qgw:∀(p:List Nat) (v:LV) (K:LV->(LV->Option LV)->Option ρ) (res:ρ),v.qpd p K=some res->∃a back,v.at p=some a/\(∀w v',back w=some v'->v.put p w=some v')/\K a back=some res
 |[],v,K,res,h=>⟨v,some,LV.qa6 v,fun w v' e=>by rw[LV.put];exact e,by rw[LV.qpd]at h;exact h⟩
 |[_],v,K,res,h=>by rw[LV.qpd]at h;cases h
 |c::r::p,v,K,res,h=>by
  rw[LV.qpd]at h;split at h
  ·rename_i t e ht;obtain⟨l,hl,h⟩:=qb9 h;obtain⟨a,back,h1,h2,h3⟩:=LV.qgw p _ _ _ h;have hc:=qk4 v.N (v.l.getD r v.N.z) c t e l ht hl;have hk:v.kid c r=some ⟨t,e,l⟩:=LV.qd8 hc;refine⟨a,_,by rw[LV.qbu,hk];exact h1,fun w v' hb=>?_,h3⟩
   split at hb
   ·rename_i k' hk';split at hb
    ·rename_i y hy;injection hb with hb;rw[LV.put,hk];simp only[h2 w k' hk',q77 _ _ _ _ _ _ _ _ _ _ ht hl hy,hb]
    ·cases hb
   ·cases hb
  ·cases h
def qad.atK(H:qad)(id:Nat)(p:List Nat)(K:LV->Option ρ):Option ρ:=match H.obj id with
 |.lst root=>root.qpd p fun v _=>K v
 |_=>none
theorem qad.qe7{H:qad}{id:Nat}{p:List Nat}{K:LV->Option ρ}{res:ρ}(h:H.atK id p K=some res):∃v,H.at id p=some v/\K v=some res:=by
 unfold qad.atK at h;split at h
 ·rename_i root ho;obtain⟨a,_,h1,_,h3⟩:=LV.qgw p root _ res h;exact⟨a,by unfold qad.at;rw[ho];exact h1,h3⟩
 ·cases h
def qnu:Nat->List Nat->Bool
 |_,[]=>false
 |n,a::l=>Nat.beq n a||qnu n l
def ldC(H:qad)(t:TypeId)(id:Nat)(p:List Nat)(v:LV)(r c:Nat)(K:EV->Option ρ):Option ρ:=match qrq v.N c with
 |none=>fE (qhb id p v.N (v.l.getD r v.N.z) r c) K
 |some (_,e)=>match zci v.N c with
  |none=>qak (qrr v.N (v.l.getD r v.N.z) c e) fun _=>K (.qa5 id (p++[c,r]))
  |some e'=>bif qnu t H.md then qak (qrr v.N (v.l.getD r v.N.z) c e) fun _=>K (.qa5 id (p++[c,r]))
   else qak (zcj v.N (v.l.getD r v.N.z) c e') fun l=>K (.fz e' l)
theorem q0q{H:qad}{t:TypeId}{id:Nat}{p:List Nat}{v:LV}{r c:Nat}{K:EV->Option ρ}{res:ρ}(h:ldC H t id p v r c K=some res):K (qhb id p v.N (v.row r) r c)=some res:=by
 unfold ldC at h;have own:∀t' e,qrq v.N c=some (t',e)->qak (qrr v.N (v.l.getD r v.N.z) c e) (fun _=>K (.qa5 id (p++[c,r])))=some res->K (qhb id p v.N (v.row r) r c)=some res:=fun t' e ht hk=>by
  obtain⟨l,hl,hk⟩:=qb9 hk;have:qhb id p v.N (v.row r) r c=.qa5 id (p++[c,r]):=by
   unfold qhb;rw[show qam v.N (v.row r) c=.own t' e l from qk4 _ _ _ _ _ _ ht hl]
  rw[this];exact hk
 split at h
 ·rw[qj4]at h;exact h
 ·rename_i t' e ht;split at h
  ·exact own t' e ht h
  ·rename_i e' hf;cases hm:qnu t H.md with
   |true=>rw[hm]at h;exact own t' e ht h
   |false=>
    rw[hm]at h;obtain⟨l,hl,h⟩:=qb9 h;have:qhb id p v.N (v.row r) r c=.fz e' l:=by
     unfold qhb;rw[show qam v.N (v.row r) c=.ev (.fz e' l)from q40 _ _ _ _ _ hf hl]
    rw[this];exact h
def q1x(H:qad)(t:TypeId)(id:Nat)(p:List Nat)(v:LV)(r c:Nat):Nat->(List EV->Option ρ)->Option ρ
 |0,K=>K []
 |n+1,K=>ldC H t id p v r c fun u=>q1x H t id p v r (c+1) n fun l=>K (u::l)
theorem qo4{H:qad}{t:TypeId}{id:Nat}{p:List Nat}{v:LV}{r:Nat}{res:ρ}:∀ {n c:Nat} {K:List EV->Option ρ},q1x H t id p v r c n K=some res->K (qc3 id p v.N (v.row r) r c n)=some res
 |0,c,K,h=>h
 |n+1,c,K,h=>qo4 (n:=n) (q0q h)
def qpn[Tys P](H:qad)(t:TypeId)(a:EV)(K:EV->Option ρ):Option ρ:=bif Nat.blt 0 (Tys.c P t).sz then(match a with
 |.fp N x c=>bif qj2 N then(bif Nat.ble (c+(Tys.c P t).sz) N.sz then(bif(Tys.c P t).agg then qu0 0 [] N x 0 c (Tys.c P t).sz K else fE (qhb 0 [] N x 0 c) K)else none)else none
 |.ptr id p r c=>match H.obj id with
  |.cells _ l=>match p with
   |[]=>grd (Nat.blt r 1) (bif(Tys.c P t).agg then(bif Nat.ble (c+(Tys.c P t).sz) l.length then K (.agg (q85 l c (Tys.c P t).sz))else none)else(bif Nat.blt c l.length then fE (qdb l c) K else none))
   |_=>none
  |_=>H.atK id p fun v=>bif Nat.ble (c+(Tys.c P t).sz) v.N.sz then grd (Nat.blt r v.l.length) (bif(Tys.c P t).agg then(bif qnu t H.md then q1x H t id p v r c (Tys.c P t).sz (fun l=>K (.agg l))else qu0 id p v.N (v.l.getD r v.N.z) r c (Tys.c P t).sz K)else ldC H t id p v r c K)else none
 | _=>none)else none
theorem qn9[T:Tys P]{s:ESt}{t:TypeId}{a:Operand}{K:EV->Option ρ}{res:ρ}(h:qpn (P:=P) s.heap t (s.eval a) K=some res):∃u,(∀d ty,QV P ⟨d,.load t a,ty,none⟩ (toV s.heap.len u) (qbc s))/\K u=some res:=by
 unfold qpn at h;obtain⟨h0,h⟩:=qaf h;split at h
 ·rename_i N x c hx;have hx:=eval_eq hx rfl;simp only[toV]at hx;obtain⟨hf,h⟩:=qaf h;obtain⟨h1,h⟩:=qaf h;have h1:=zg4 h1;have h0':=zg4 h0;cases ha:(Tys.c P t).agg with
  |true=>
   rw[ha]at h;have:=qb6.of' h0 ha;obtain⟨u,k1,k2⟩:=qoa (len:=s.heap.len) (K:=K) h (g:=fun j=>.t (qj6 N x (j+c))) (fun j hj=>by
    rw[qif hf (by omega),zil c j];exact Wk.refl _)
   exact⟨u,fun d ty=>(O.q0j hx (Nat.ble_eq_true_of_le (by omega))).wk k1,k2⟩
  |false=>
   rw[ha]at h;have:=qb6.of' h0 ha;simp only[cond_false]at h;rw[qj4]at h;refine⟨_,fun d ty=>(O.q8s hx (Nat.ble_eq_true_of_le (by omega))).wk ?_,h⟩;rw[qif hf (by omega),zg9];exact Wk.refl _
 ·rename_i id p r c hx;have hx:=eval_eq hx rfl;simp only[toV]at hx;split at h
  ·rename_i e l ho;split at h
   ·have hs:=qc9 ho;obtain⟨h2,h⟩:=qbs h;have h2:=zg4 h2;cases ha:(Tys.c P t).agg with
    |true=>
     rw[ha]at h;obtain⟨h3,h⟩:=qaf h;have h3:=zg4 h3;have:=qb6.of' h0 ha;refine⟨_,fun d ty=>(O.qrx hx hs rfl (by simpa using h2) h3).wk ?_,h⟩;simp only[toV,qv9];exact Wk.agg fun j hj=>by rw[q1s _ l _ c j hj,zil c j];exact Wk.refl _
    |false=>
     rw[ha]at h;obtain⟨h3,h⟩:=qaf h;have:=qb6.of' h0 ha;rw[qj4]at h;refine⟨_,fun d ty=>(O.q4s hx hs rfl (by simpa using h2) (zg4 h3)).wk ?_,h⟩;rw[qey];exact Wk.refl _
   ·cases h
  ·obtain⟨v,hv,g⟩:=qad.qe7 h;clear h;obtain⟨h3,g⟩:=qaf g;obtain⟨h2,h⟩:=qbs g;clear g;have h2:=zg4 h2;have h3:=zg4 h3;have h0':=zg4 h0;have hs:=qb3 hv;cases ha:(Tys.c P t).agg with
   |true=>
    rw[ha]at h;have:=qb6.of' h0 ha;simp only[cond_true]at h;cases hm:qnu t s.heap.md with
    |true=>
     rw[hm]at h;have h:=qo4 h;refine⟨_,fun d ty=>(O.qrx hx hs rfl h2 h3).wk ?_,h⟩;simp only[toV,qb0];exact Wk.agg fun j hj=>by rw[qds _ _ _ _ _ _ _ _ _ hj];show Wk (qbd s.heap.len id p r (j+c) (qam v.N (v.row r) (j+c))) _;rw[zil j c];exact Wk.of_eq (qne hv r (c+j)).symm
    |false=>
    rw[hm]at h;obtain⟨u,k1,k2⟩:=qoa (len:=s.heap.len) (K:=K) h (g:=fun j=>qbd s.heap.len id p r (j+c) (qam v.N (v.row r) (j+c))) (fun j hj=>by
     rw[zil j c];exact Wk.of_eq (qne hv r (c+j)).symm)
    exact⟨u,fun d ty=>(O.qrx hx hs rfl h2 h3).wk k1,k2⟩
   |false=>
    rw[ha]at h;have:=qb6.of' h0 ha;simp only[cond_false]at h;have h:=q0q h;exact⟨_,fun d ty=>(O.q4s hx hs rfl h2 (by show c<v.N.sz;omega)).wk (Wk.of_eq (qne hv r c).symm),h⟩
 ·cases h
def qad.is(H:qad)(id:Nat)(p:List Nat):Bool:=match H.obj id with
 |.cells _ _=>match p with
  |[]=>true
  |_=>false
 |_=>match H.at id p with
  |some _=>true
  |none=>false
theorem qad.qoq{H:qad}{id:Nat}{p:List Nat}(h:H.is id p=true):∃x,(toH H).slot ⟨id,p⟩=.live x/\x.ver=0:=by
 unfold qad.is at h;split at h
 ·rename_i ho;split at h
  ·exact⟨_,qc9 ho,rfl⟩
  ·cases h
 ·split at h
  ·rename_i hv;exact⟨_,qb3 hv,rfl⟩
  ·cases h
def qad.isK(H:qad)(id:Nat)(p:List Nat)(K:Option ρ):Option ρ:=match H.obj id with
 | .cells _ _=>(match p with
  |[]=>K
  | _=>none)
 |_=>H.atK id p fun _=>K
theorem qad.qg8{H:qad}{id:Nat}{p:List Nat}{K:Option ρ}{res:ρ}(h:H.isK id p K=some res):H.is id p=true/\K=some res:=by
 unfold qad.isK at h;unfold qad.is;cases ho:H.obj id with
 |cells e l=>
  rw[ho]at h;cases p with
  |nil=>exact⟨rfl,h⟩
  |cons a b=>cases h
 |lst root=>
  rw[ho]at h;obtain⟨v,hv,h⟩:=qad.qe7 h;refine⟨?_,h⟩;simp only[hv]
 |none=>rw[ho]at h;obtain⟨v,hv,h⟩:=qad.qe7 h;exact⟨by simp only[hv],h⟩
 |dead=>rw[ho]at h;obtain⟨v,hv,h⟩:=qad.qe7 h;exact⟨by simp only[hv],h⟩
 |hole v q r c u=>rw[ho]at h;obtain⟨v,hv,h⟩:=qad.qe7 h;exact⟨by simp only[hv],h⟩
 |mp a b c=>rw[ho]at h;obtain⟨v,hv,h⟩:=qad.qe7 h;exact⟨by simp only[hv],h⟩
def qw6(n:Nat)(K:Nat->Option ρ):Option ρ:=match n with
 |0=>K 0
 |1=>K 1
 |2=>K 2
 |3=>K 3
 |4=>K 4
 |5=>K 5
 |6=>K 6
 |7=>K 7
 |8=>K 8
 |9=>K 9
 |10=>K 10
 |11=>K 11
 |12=>K 12
 |13=>K 13
 |14=>K 14
 |15=>K 15
 |n+16=>K (n+16)
theorem qfo(n:Nat)(K:Nat->Option ρ):qw6 n K=K n:=by
 unfold qw6
 split<;>rfl
def qpp[Tys P](H:qad)(t f:Nat)(a:EV)(K:EV->Option ρ):Option ρ:=match nth (Tys.c P t).fields f with
 |some (off,_,_)=>match a with
  |.fp N x c=>qw6 (c+off) fun c'=>K (.fp N x c')
  |.ptr id p r c=>H.isK id p (qw6 (c+off) fun c'=>K (.ptr id p r c'))
  |_=>none
 |none=>none
theorem qtc[T:Tys P]{s:ESt}{t f:Nat}{x:Operand}{K:EV->Option ρ}{res:ρ}(h:qpp (P:=P) s.heap t f (s.eval x) K=some res):∃u,(∀d ty,QV P ⟨d,.fieldAddr t x f,ty,none⟩ (toV s.heap.len u) (qbc s))/\K u=some res:=by
 unfold qpp at h;split at h
 ·rename_i off ag sz hf;have:=(T.ok t).fld f off ag sz hf;split at h
  ·rename_i N y c hx;have hx:=eval_eq hx rfl;simp only[toV]at hx;rw[qfo]at h;refine⟨_,fun d ty=>(O.q1c hx).wk ?_,h⟩;simp only[toV];exact Wk.fp (by omega) (fun j hj=>by congr 1;omega)
  ·rename_i id p r c hx;have hx:=eval_eq hx rfl;simp only[toV]at hx;obtain⟨h1,g⟩:=qad.qg8 h;clear h;have h:=g;obtain⟨o,ho,hv⟩:=qad.qoq h1;rw[qfo]at h;exact⟨_,fun d ty=>(by simp only[toV];exact O.q1b hx ho hv.symm),h⟩
  ·cases h
 ·cases h
def qpo[Tys P](H:qad)(t:TypeId)(a i:EV)(K:EV->Option ρ):Option ρ:=match(Tys.c P t).sl with
 |some (_,sz,_)=>match i with
  |.i _ m=>match a with
   |.fz N l=>bif Nat.beq N.sz sz then ixO m l.length fun i=>K (.fp N (l.getD i N.z) 0)else none
   |.qa5 id p=>H.atK id p fun v=>bif Nat.beq v.N.sz sz then ixO m v.l.length fun i=>K (.ptr id p i 0)else none
   |.qbq id p r n=>H.atK id p fun v=>bif Nat.beq v.N.sz sz then ixO m n fun i=>K (.ptr id p (i+r) 0)else none
   |_=>none
  |_=>none
 |none=>none
theorem qtb[T:Tys P]{s:ESt}{t:Nat}{x y:Operand}{K:EV->Option ρ}{res:ρ}(h:qpo (P:=P) s.heap t (s.eval x) (s.eval y) K=some res):∃u,(∀d ty,QV P ⟨d,.indexAddr t x y,ty,none⟩ (toV s.heap.len u) (qbc s))/\K u=some res:=by
 unfold qpo at h;split at h
 ·rename_i e sz b hs;have:=(T.ok t).sl e sz b hs;split at h
  ·rename_i k m hy;have hy:=eval_eq hy rfl;simp only[toV]at hy;split at h
   ·rename_i N l hx;have hx:=eval_eq hx rfl;simp only[toV,qx0]at hx;obtain⟨h2,g⟩:=qaf h;clear h;obtain⟨h3,h⟩:=qp8 g;clear g;obtain rfl:=qbl h2;exact⟨_,fun d ty=>(O.qvy hx hy h3.1 h3.2).wk (by simp only[toV];exact Wk.refl _),h⟩
   ·rename_i id p hx;obtain⟨v,hv,k⟩:=qad.qe7 h;clear h;have hx:=eval_eq hx rfl;simp only[toV,qad.qf1 hv]at hx;obtain⟨h2,g⟩:=qaf k;clear k;obtain⟨h3,h⟩:=qp8 g;clear g;obtain rfl:=qbl h2;have hs':=qb3 hv;exact⟨_,fun d ty=>(O.qr5 hx hs' rfl rfl hy h3.1 h3.2).wk (by simp only[toV];exact Wk.refl _),h⟩
   ·rename_i id p r n hx;obtain⟨v,hv,k⟩:=qad.qe7 h;clear h;have hx:=eval_eq hx rfl;simp only[toV]at hx;obtain⟨h2,g⟩:=qaf k;clear k;obtain⟨h3,h⟩:=qp8 g;clear g;obtain rfl:=qbl h2;have hs':=qb3 hv;exact⟨_,fun d ty=>(O.qr5 hx hs' rfl rfl hy h3.1 h3.2).wk (by simp only[toV];exact Wk.refl _),h⟩
   ·cases h
  ·cases h
 ·cases h
def qzi[Tys P](H:qad)(t:TypeId)(a:EV)(K:EV->Option ρ):Option ρ:=match a with
 |.s x=>match(Tys.c P t).desc with
  |some .string=>K (.i .i64 x.size)
  |_=>none
 |a=>match(Tys.c P t).sl with
  |none=>none
  |some _=>match a with
   |.fz _ l=>K (.i .i64 l.length)
   |.qby=>K (.i .i64 0)
   |.qa5 id p=>H.atK id p fun v=>K (.i .i64 v.l.length)
   |.qbq id p _ n=>H.atK id p fun _=>K (.i .i64 n)
   |_=>none
theorem qzh[T:Tys P]{s:ESt}{t:Nat}{x:Operand}{K:EV->Option ρ}{res:ρ}(h:qzi (P:=P) s.heap t (s.eval x) K=some res) :
  ∃u,(∀d ty,QV P ⟨d,.call { callee:=.builtin .len,args:=#[x],argTypes:=#[t] },ty,none⟩ (toV s.heap.len u) (qbc s))/\K u=some res:=by
 unfold qzi at h;split at h
 ·rename_i hx;have hx:=eval_eq hx rfl;simp only[toV]at hx;split at h
  ·rename_i hd;have:=(T.ok t).desc _ hd;exact⟨_,fun d ty=>(by simp only[toV];exact O.q0o hx),h⟩
  ·cases h
 ·split at h
  ·cases h
  ·rename_i z hs;obtain⟨e,sz,b⟩:=z;have:=(T.ok t).sl e sz b hs;split at h
   ·rename_i hx;have hx:=eval_eq hx rfl;simp only[toV,qx0]at hx;exact⟨_,fun d ty=>(by simp only[toV];exact O.ze0 hx),h⟩
   ·rename_i hx;have hx:=eval_eq hx rfl;simp only[toV]at hx;exact⟨_,fun d ty=>(by simp only[toV];exact O.zez hx),h⟩
   ·rename_i id p hx;obtain⟨v,hv,g⟩:=qad.qe7 h;have hx:=eval_eq hx rfl;simp only[toV,qad.qf1 hv]at hx;exact⟨_,fun d ty=>(by simp only[toV];exact O.zdj hx (qb3 hv) rfl),g⟩
   ·rename_i id p r n hx;obtain⟨v,hv,g⟩:=qad.qe7 h;have hx:=eval_eq hx rfl;simp only[toV]at hx;exact⟨_,fun d ty=>(by simp only[toV];exact O.zdj hx (qb3 hv) rfl),g⟩
   ·cases h
def q6g(op:BinOp)(m n:Int)(K:EV->Option ρ):Option ρ:=match op with
 |.eql=>K (.b (decide (m=n)))
 |.neq=>K (.b (!decide (m=n)))
 |.lss=>K (.b (decide (m<n)))
 |.leq=>K (.b (decide (m<=n)))
 |.gtr=>K (.b (decide (n<m)))
 |.geq=>K (.b (decide (n<=m)))
 |_=>none
def q6f(op:BinOp)(k:IntKind)(m n:Int)(K:EV->Option ρ):Option ρ:=match op with
 |.add=>wrO k (m+n) fun z=>K (.i k z)
 |.sub=>wrO k (m-n) fun z=>K (.i k z)
 |.mul=>wrO k (m*n) fun z=>K (.i k z)
 |.quo=>grd (!decide (n=0)) (wrO k (m.tdiv n) fun z=>K (.i k z))
 |.rem=>grd (!decide (n=0)) (K (.i k (m.tmod n)))
 |.and=>K (.i k (qss .and k m n))
 |.or=>K (.i k (qss .or k m n))
 |.xor=>K (.i k (qss .xor k m n))
 |.andNot=>K (.i k (qss .andNot k m n))
 |op=>q6g op m n K
def qzn[Tys P](op:BinOp)(tx:TypeId)(u v:EV)(K:EV->Option ρ):Option ρ:=match u,v with
 |.i k m,.i k' n=>match op with
  |.shl=>grd (okB (0<=n)) (K (.i k (k.wrap (m*2^(min n.toNat k.bits)))))
  |.shr=>grd (okB (0<=n)) (K (.i k (m.fdiv (2^(min n.toNat k.bits)))))
  |op=>bif qdo k k' then q6f op k m n K else none
 |.b p,.b q=>match(Tys.c P tx).desc with
  |some .bool=>match op with
   |.eql=>K (.b (p==q))
   |.neq=>K (.b (!(p==q)))
   |_=>none
  |_=>none
 |.s x,.s y=>match op with
  |.eql=>K (.b (x.toList==y.toList))
  |.neq=>K (.b (!(x.toList==y.toList)))
  |_=>none
 |_,_=>none
theorem qzl{s:ESt}{o:BinOp}{tx tY:TypeId}{x y:Operand}{k:IntKind}{m n:Int}{K:EV->Option ρ}{res:ρ}(hx:(qbc s).eval x=.t (.int k m))(hy:(qbc s).eval y=.t (.int k n))(h:q6g o m n K=some res):∃u,(∀d ty,QV P ⟨d,.binOp o tx x y tY,ty,none⟩ (toV s.heap.len u) (qbc s))/\K u=some res:=by
 cases o<;>first
  |(cases h;done)
  |exact⟨_,fun d ty=>(by simp only[toV];exact O.eql hx hy),h⟩
  |exact⟨_,fun d ty=>(by simp only[toV];exact O.neq hx hy),h⟩
  |exact⟨_,fun d ty=>(by simp only[toV];exact O.lss hx hy),h⟩
  |exact⟨_,fun d ty=>(by simp only[toV];exact O.leq hx hy),h⟩
  |exact⟨_,fun d ty=>(by simp only[toV];exact O.gtr hx hy),h⟩
  |exact⟨_,fun d ty=>(by simp only[toV];exact O.geq hx hy),h⟩
theorem q0d{p:Prop}[Decidable p](h:(!decide p)=true):¬ p:=by simpa using h
theorem qzk{s:ESt}{o:BinOp}{tx tY:TypeId}{x y:Operand}{k:IntKind}{m n:Int}{K:EV->Option ρ}{res:ρ}(hx:(qbc s).eval x=.t (.int k m))(hy:(qbc s).eval y=.t (.int k n))(h:q6f o k m n K=some res):∃u,(∀d ty,QV P ⟨d,.binOp o tx x y tY,ty,none⟩ (toV s.heap.len u) (qbc s))/\K u=some res:=by
 cases o<;>first
  |exact qzl hx hy h
  |(have h':=qli (show wrO k (m+n) (fun z=>K (.i k z))=some res from h);exact⟨_,fun d ty=>(by simp only[toV];exact O.add hx hy rfl),h'⟩)
  |(have h':=qli (show wrO k (m-n) (fun z=>K (.i k z))=some res from h);exact⟨_,fun d ty=>(by simp only[toV];exact O.sub hx hy rfl),h'⟩)
  |(have h':=qli (show wrO k (m*n) (fun z=>K (.i k z))=some res from h);exact⟨_,fun d ty=>(by simp only[toV];exact O.mul hx hy rfl),h'⟩)
  |(have h':=qbs (show grd (!decide (n=0)) (wrO k (m.tdiv n) (fun z=>K (.i k z)))=some res from h);have h2:=qli h'.2;exact⟨_,fun d ty=>(by simp only[toV];exact O.quo hx hy (q0d h'.1) rfl),h2⟩)
  |(have h':=qbs (show grd (!decide (n=0)) (K (.i k (m.tmod n)))=some res from h);exact⟨_,fun d ty=>(by simp only[toV];exact O.rem hx hy (q0d h'.1)),h'.2⟩)
  |exact⟨_,fun d ty=>(by simp only[toV];exact O.bits hx hy rfl),h⟩
theorem qzm[T:Tys P]{s:ESt}{o:BinOp}{tx tY:TypeId}{x y:Operand}{K:EV->Option ρ}{res:ρ}(h:qzn (P:=P) o tx (s.eval x) (s.eval y) K=some res):∃u,(∀d ty,QV P ⟨d,.binOp o tx x y tY,ty,none⟩ (toV s.heap.len u) (qbc s))/\K u=some res:=by
 unfold qzn at h;split at h
 ·rename_i k m k' n hx hy;have hx:=eval_eq hx rfl;have hy:=eval_eq hy rfl;simp only[toV]at hx hy;split at h
  ·obtain⟨h1,h⟩:=qbs h;exact⟨_,fun d ty=>(by simp only[toV];exact O.shl hx hy (qc5 h1)),h⟩
  ·obtain⟨h1,h⟩:=qbs h;exact⟨_,fun d ty=>(by simp only[toV];exact O.shr hx hy (qc5 h1)),h⟩
  ·obtain⟨h1,g⟩:=qaf h;clear h;have:=qcx h1;subst this;exact qzk hx hy g
 ·rename_i p q hx hy;have hx:=eval_eq hx rfl;have hy:=eval_eq hy rfl;simp only[toV]at hx hy;split at h
  ·rename_i hd;have:=(T.ok tx).desc _ hd;split at h
   ·exact⟨_,fun d ty=>(by simp only[toV];exact O.zfd hx hy),h⟩
   ·exact⟨_,fun d ty=>(by simp only[toV];exact O.zet hx hy),h⟩
   ·cases h
  ·cases h
 ·rename_i hx hy;have hx:=eval_eq hx rfl;have hy:=eval_eq hy rfl;simp only[toV]at hx hy;split at h
  ·exact⟨_,fun d ty=>(by simp only[toV];exact O.q81 hx hy),h⟩
  ·exact⟨_,fun d ty=>(by simp only[toV];exact O.q8e hx hy),h⟩
  ·cases h
 ·cases h
def qjs[Tys P](ev:Operand->EV)(H:qad)(b:Builtin)(args:List Operand)(ts:List TypeId)(K:EV->Option ρ):Option ρ:=match b with
 |.len=>match args,ts with
  |[x],[t]=>qzi (P:=P) H t (ev x) K
  |_,_=>none
 |.min=>match args with
  |[x,y]=>match ev x,ev y with
   |.i k m,.i k' n=>bif qdo k k' then K (.i k (if n<m then n else m))else none
   |_,_=>none
  |_=>none
 |.max=>match args with
  |[x,y]=>match ev x,ev y with
   |.i k m,.i k' n=>bif qdo k k' then K (.i k (if n>m then n else m))else none
   |_,_=>none
  |_=>none
 |_=>none
def zbs(P:Program)[Tys P](ev:Operand->EV)(H:qad)(op:Op)(K:EV->Option ρ):Option ρ:=match op with
 |.move x=>fE (ev x) K
 |.assign x=>fE (ev x) K
 |.pick c a b=>match ev c with
  |.b v=>cond v (fE (ev a) K) (fE (ev b) K)
  |_=>none
 |.load t a=>qpn (P:=P) H t (ev a) K
 |.fieldAddr t x f=>qpp (P:=P) H t f (ev x) K
 |.indexAddr t x y=>qpo (P:=P) H t (ev x) (ev y) K
 |.binOp o tx x y _=>qzn (P:=P) o tx (ev x) (ev y) K
 |.unOp o _ x=>match o,ev x with
  |.not,.b b=>K (.b (!b))
  |.neg,.i k n=>wrO k (0-n) fun z=>K (.i k z)
  |.xor,.i k n=>K (.i k (qss .xor k (if k.signed then -1 else k.max) n))
  |_,_=>none
 |.convert src dst x=>match(Tys.c P src).desc,(Tys.c P dst).desc,ev x with
  |some _,some (.int k'),.i _ n=>K (.i k' (k'.wrap n))
  |_,_,_=>none
 |.extract x i=>match x with
  |.tmp _=>match ev x with
   |.tup l=>bif Nat.blt i l.length then fE (qdb l i) K else none
   |_=>none
  |_=>none
 |.nilCheck x=>match ev x with
  |.fp N y c=>K (.fp N y c)
  |.ptr id p r c=>H.isK id p (K (.ptr id p r c))
  |_=>none
 |.field t x f=>match nth (Tys.c P t).fields f,x,ev x with
  |some (off,false,_),.tmp _,.agg l=>bif Nat.blt off l.length then fE (qdb l off) K else none
  |some (off,false,_),_,.st i y=>bif qa2.fro i then(bif Nat.blt off (SU.sz i)then fE (qhb 0 [] (.st i) y 0 off) K else none)else none
  |_,_,_=>none
 |.index t x y=>match(Tys.c P t).desc,ev x,ev y with
  |some .string,.s x,.i _ m=>ixO m x.size fun i=>K (.i .u8 (qpg x i))
  |_,_,_=>none
 |.call c=>match c.callee with
  |.builtin b=>qjs (P:=P) ev H b c.args.toList c.argTypes.toList K
  |_=>none
 |_=>none
theorem qpq[T:Tys P]{s:ESt}{b:Builtin}{args:Array Operand}{ats:Array TypeId}{K:EV->Option ρ}{res:ρ}(h:qjs (P:=P) s.eval s.heap b args.toList ats.toList K=some res) :
  ∃u,(∀d ty,QV P ⟨d,.call { callee:=.builtin b,args:=args,argTypes:=ats },ty,none⟩ (toV s.heap.len u) (qbc s))/\K u=some res:=by
 unfold qjs at h;split at h
 ·split at h
  ·rename_i h1 h2;rw[toList_eq h1,toList_eq h2];exact qzh h
  ·cases h
 ·split at h
  ·rename_i h1;rw[toList_eq h1];split at h
   ·rename_i hx hy;have hx:=eval_eq hx rfl;have hy:=eval_eq hy rfl;simp only[toV]at hx hy;obtain⟨h2,g⟩:=qaf h;clear h;have h:=g;clear g;have:=qcx h2;subst this;exact⟨_,fun d ty=>(by simp only[toV];exact O.min' hx hy),h⟩
   ·cases h
  ·cases h
 ·split at h
  ·rename_i h1;rw[toList_eq h1];split at h
   ·rename_i hx hy;have hx:=eval_eq hx rfl;have hy:=eval_eq hy rfl;simp only[toV]at hx hy;obtain⟨h2,g⟩:=qaf h;clear h;have h:=g;clear g;have:=qcx h2;subst this;exact⟨_,fun d ty=>(by simp only[toV];exact O.max' hx hy),h⟩
   ·cases h
  ·cases h
 ·cases h
theorem qta[T:Tys P]{s:ESt}{op:Op}{K:EV->Option ρ}{res:ρ}(h:zbs P s.eval s.heap op K=some res):∃u,(∀d ty,QV P ⟨d,op,ty,none⟩ (toV s.heap.len u) (qbc s))/\K u=some res:=by
 unfold zbs at h;split at h
 ·rw[qj4]at h;exact⟨_,fun d ty=>O.move.wk (s.qdj _),h⟩
 ·rw[qj4]at h;exact⟨_,fun d ty=>O.assign.wk (s.qdj _),h⟩
 ·split at h
  ·rename_i v hc;have hc:=eval_eq hc rfl;simp only[toV]at hc;cases v with
   |true=>simp only[cond_true]at h;rw[qj4]at h;exact⟨_,fun d ty=>(O.ql5 hc).wk (s.qdj _),h⟩
   |false=>simp only[cond_false]at h;rw[qj4]at h;exact⟨_,fun d ty=>(O.qjv hc).wk (s.qdj _),h⟩
  ·cases h
 ·exact qn9 h
 ·exact qtc h
 ·exact qtb h
 ·exact qzm h
 ·split at h
  ·rename_i hx;have hx:=eval_eq hx rfl;simp only[toV]at hx;exact⟨_,fun d ty=>(by simp only[toV];exact O.not hx),h⟩
  ·rename_i hx;have hx:=eval_eq hx rfl;simp only[toV]at hx;exact⟨_,fun d ty=>(by simp only[toV];exact O.neg hx rfl),qli h⟩
  ·rename_i hx;have hx:=eval_eq hx rfl;simp only[toV]at hx;exact⟨_,fun d ty=>(by simp only[toV];exact O.zfh hx),h⟩
  ·cases h
 ·split at h
  ·rename_i hs hd hx;have:=(T.ok _).desc _ hs;have:=(T.ok _).desc _ hd;have hx:=eval_eq hx rfl;simp only[toV]at hx;exact⟨_,fun d ty=>(by simp only[toV];exact O.qt0 hx rfl),h⟩
  ·cases h
 ·split at h
  ·split at h
   ·rename_i l hx;have hx:=eval_eq hx rfl;simp only[toV]at hx;obtain⟨h1,h⟩:=qaf h;rw[qj4]at h;exact⟨_,fun d ty=>(O.extract hx h1).wk (by rw[qey];exact Wk.refl _),h⟩
   ·cases h
  ·cases h
 ·split at h
  ·rename_i hx;have hx:=eval_eq hx rfl;simp only[toV]at hx;exact⟨_,fun d ty=>(by simp only[toV];exact O.qmc hx),h⟩
  ·rename_i id p r c hx;have hx:=eval_eq hx rfl;simp only[toV]at hx;obtain⟨h1,g⟩:=qad.qg8 h;clear h;have h:=g;obtain⟨o,ho,hv⟩:=qad.qoq h1;exact⟨_,fun d ty=>(by simp only[toV];exact O.qmb hx ho hv.symm),h⟩
  ·cases h
 ·split at h
  ·rename_i off sz t l hf hx;have:=(T.ok _).fld _ _ _ _ hf;have hx:(qbc s).eval (.tmp t)=toV s.heap.len (.agg l):=by rw[<- hx];rfl
   simp only[toV]at hx;obtain⟨h1,h⟩:=qaf h;rw[qj4]at h;exact⟨_,fun d ty=>(O.q61 hx h1).wk (by rw[qey];exact Wk.refl _),h⟩
  ·rename_i off sz i y hf hx;have:=(T.ok _).fld _ _ _ _ hf;have hx:=eval_eq hx rfl;simp only[toV]at hx;obtain⟨h1,h⟩:=qaf h;obtain⟨h2,h⟩:=qaf h;rw[qj4]at h;exact⟨_,fun d ty=>(O.q61 hx h2).wk (by rw[qif (N:=.st i) h1 (zg4 h2)];exact Wk.refl _),h⟩
  ·cases h
 ·split at h
  ·rename_i hd hx hy;have:=(T.ok _).desc _ hd;have hx:=eval_eq hx rfl;have hy:=eval_eq hy rfl;simp only[toV]at hx hy;obtain⟨⟨p1,p2⟩,k⟩:=qp8 h;have hlt:=(Int.toNat_lt p1).2 p2;exact⟨_,fun d ty=>(by simp only[toV];exact q3y hlt▸O.qqa hx hy p1 hlt),k⟩
  ·cases h
 ·rename_i c;obtain⟨callee,args,ats⟩:=c;split at h
  ·rename_i hc;simp only at hc;subst hc;exact qpq h
  ·cases h
 ·cases h
end
end
end Go.Abs
namespace Go.Abs
open Go
variable {P:Program} {d:Option Tmp} {ty:TypeId} {L:List GOp}
def qfq(H:qbe):V->Prop
 |.ptr id _ _ _=>H.slot id≠.qae
 |.qbq id _ _ _=>H.slot id≠.qae
 |.qcd id=>H.slot id≠.qae
 |.agg n g=>∀j,j<n->qfq H (g j)
 |.tup n g=>∀j,j<n->qfq H (g j)
 |.fn _ n g=>∀j,j<n->qfq H (g j)
 |_=>True
theorem qay.born{H:qbe}{M:Id->Option Nat}{F:Nat->Prop}{w:World}:∀ {u:V} {v:Value},qay H M F w u v->qfq H u:=by
 intro u
 induction u with
 |ptr id ver r c=>rintro v ⟨_,h⟩ e;rw[e]at h;exact h
 |qbq id ver r c=>rintro v ⟨_,h⟩ e;rw[e]at h;exact h
 |qcd id=>rintro v ⟨_,h⟩ e;rw[e]at h;exact h
 |agg n g ih=>rintro v ⟨cs,h1,h2,h3⟩ j hj;obtain⟨c,a,p,b⟩:=h3 j hj;exact ih j b
 |tup n g ih=>rintro v ⟨cs,h1,h2,h3⟩ j hj;obtain⟨c,a,b⟩:=h3 j hj;exact ih j b
 |fn f n g ih=>rintro v ⟨cs,h1,h2,h3⟩ j hj;obtain⟨c,a,b⟩:=h3 j hj;exact ih j b
 |_=>exact fun _=>trivial
section
variable [SU]
mutual
theorem qgy{H:qbe}{len len':Len}(hl:∀id p,H.slot ⟨id,p⟩≠.qae->len' id p=len id p):∀u:EV,qfq H (toV len u)->toV len' u=toV len u
 |.qa5 id p,h=>by
  simp only[toV]at h ⊢;have hb:H.slot ⟨id,p⟩≠.qae:=by cases hx:len id p<;>rw[hx]at h<;>exact h
  rw[hl id p hb]
 |.agg l,h=>by simp only[toV]at h ⊢;rw[qf9 hl l h]
 |.tup l,h=>by simp only[toV]at h ⊢;rw[qf9 hl l h]
 |.fn f l,h=>by simp only[toV]at h ⊢;rw[qf9 hl l h]
 |.un,_=>by simp only[toV]
 |.und,_=>by simp only[toV]
 |.b _,_=>by simp only[toV]
 |.i _ _,_=>by simp only[toV]
 |.s _,_=>by simp only[toV]
 |.fz _ _,_=>by simp only[toV]
 |.fp _ _ _,_=>by simp only[toV]
 |.st _ _,_=>by simp only[toV]
 |.ptr _ _ _ _,_=>by simp only[toV]
 |.qbq _ _ _ _,_=>by simp only[toV]
 |.qby,_=>by simp only[toV]
 |.qej,_=>by simp only[toV]
 |.qek,_=>by simp only[toV]
 |.qel,_=>by simp only[toV]
 |.qji,_=>by simp only[toV]
 |.qcd _,_=>by simp only[toV]
theorem qf9{H:qbe}{len len':Len}(hl:∀id p,H.slot ⟨id,p⟩≠.qae->len' id p=len id p):∀l:List EV,(∀j,j<l.length->qfq H (qa3 len l j))->qa3 len' l=qa3 len l
 |[],_=>by funext j;simp only[qa3]
 |a::l,h=>by
  have h1:=qgy hl a (by have:=h 0 (by simp);simpa only[qa3]using this)
  have h2:=qf9 hl l (fun j hj=>by have:=h (j+1) (by simpa using hj);simpa only[qa3]using this)
  funext j;cases j with
  |zero=>simp only[qa3];exact h1
  |succ j=>simp only[qa3];rw[h2]
end
variable [qa2]
def qe9(Q:Exit->ESt->Prop):Exit->St->Prop:=fun e st=>∃s,st=qbc s/\Q e s
def zb7(K:ESt->Prop):St->Prop:=fun st=>∃s,st=qbc s/\K s
structure SLT(P:Program)(L:List GOp)(Q:Exit->ESt->Prop)(s:ESt):Prop where
 out:SL P L (qe9 Q) (qbc s)
structure SCT(P:Program)(c:Code)(Q:Exit->ESt->Prop)(s:ESt):Prop where
 out:SC P c (qe9 Q) (qbc s)
structure QST(P:Program)(K:ESt->Prop)(L:List GOp)(s:ESt):Prop where
 out:QS P (zb7 K) L (qbc s)
def qb1(s s':ESt):Prop:=qgs (qbc s) (qbc s')
theorem qb1.refl(s:ESt):qb1 s s:=fun E M F a w r=>⟨M,F,r⟩
theorem qb1.trans{a b c:ESt}(h:qb1 a b)(k:qb1 b c):qb1 a c:=fun E M F x w r=>by
 obtain⟨ι',F',r'⟩:=h E M F x w r;exact k E ι' F' x w r'
def q7n(K:ESt->Prop)(Q:Exit->ESt->Prop):Exit->ESt->Prop
 |.normal,s=>K s
 |e,s=>Q e s
def inT(id:Nat)(Q:Exit->ESt->Prop):Exit->ESt->Prop
 |.exit id',s=>bif Nat.beq id' id then Q .normal s else Q (.exit id') s
 |e,s=>Q e s
theorem SCT.weak{c:Code}{Q:Exit->ESt->Prop}{s s':ESt}(h:qb1 s s')(k:SCT P c Q s'):SCT P c Q s:=⟨SC.weak h k.out⟩
theorem SLT.weak{Q:Exit->ESt->Prop}{s s':ESt}(h:qb1 s s')(k:SLT P L Q s'):SLT P L Q s:=⟨SL.weak h k.out⟩
theorem SCT.mono{c:Code}{Q Q':Exit->ESt->Prop}{s:ESt}(h:SCT P c Q s)(hq:∀e s,Q e s->Q' e s):SCT P c Q' s:=
 ⟨h.out.mono fun e st ⟨s,e1,k⟩=>⟨s,e1,hq e s k⟩⟩
theorem SCT.seq{a b:Code}{Q:Exit->ESt->Prop}{s:ESt}(h:∀K:ESt->Prop,(∀s,SCT P b Q s->K s)->SCT P a (q7n K Q) s):SCT P (.seq a b) Q s:=
 ⟨SC.seq fun K hK=>(h (fun s=>SCT P b Q s) (fun _ h=>h)).out.mono fun e st ⟨s,e1,k⟩=>by
  subst e1
  cases e<;>first|exact hK _ k.out|exact⟨_,rfl,k⟩⟩
theorem SCT.seq'{a b:Code}{Q:Exit->ESt->Prop}{s:ESt}(h:SCT P a (q7n (SCT P b Q) Q) s):SCT P (.seq a b) Q s:=
 SCT.seq fun K hK=>h.mono fun e s he=>by cases e<;>first|exact hK _ he|exact he
theorem SCT.block{id:Nat}{c:Code}{Q:Exit->ESt->Prop}{s:ESt}(h:SCT P c (inT id Q) s):SCT P (.block id c) Q s:=
 ⟨SC.block (h.out.mono fun e st ⟨s,e1,k⟩=>by
  subst e1;cases e with
  |exit id'=>
   simp only[inQ,inT]at k ⊢;cases hb:Nat.beq id' id with
   |true=>rw[hb]at k;exact⟨_,rfl,k⟩
   |false=>rw[hb]at k;exact⟨_,rfl,k⟩
  |normal=>exact⟨_,rfl,k⟩
  |goto l=>exact⟨_,rfl,k⟩
  |ret=>exact⟨_,rfl,k⟩
  |panic c=>exact⟨_,rfl,k⟩
  | outgrown=>exact⟨_,rfl,k⟩)⟩
theorem SCT.loop{c:Code}{Q:Exit->ESt->Prop}{s0:ESt}(h:∀J:ESt->Prop,(∀s s',qb1 s s'->J s'->J s)->(∀s,SCT P c (q7n J Q) s->J s)->J s0):SCT P (.loop c) Q s0:=
 ⟨SC.loop fun J hW hJ=>h (fun s=>J (qbc s)) (fun s s' hw hj=>hW _ _ hw hj) (fun s hs=>hJ _ (hs.out.mono fun e st ⟨s,e1,k⟩=>by
  subst e1
  cases e<;>first|exact k|exact⟨_,rfl,k⟩))⟩
structure Fair(s:ESt):Prop where
 env:∀t,qfq (toH s.heap) (toV s.heap.len (s.env t))
 obj:∀i o,(toH s.heap).slot i=.live o->∀r,r<o.n->∀c,c<o.sz->qfq (toH s.heap) (o.get r c)
 next:∀i:Id,s.heap.next<=i.k->(toH s.heap).slot i=.qae
theorem Rel.fair{E:Env}{M:Id->Option Nat}{F:Nat->Prop}{s:ESt}{a:Act}{w:World}(r:Rel E M F (qbc s) a w):Fair s where
 env t:=(r.env t).born
 obj i o h x hx c hc:=by
  obtain⟨h1,h2⟩:=r.h.obj i o h;cases hk:M i with
  |none=>rw[hk]at h2;have h2:o.n=0:=h2;omega
  |some b=>
   rw[hk]at h2;obtain⟨cur,g1,g2,g3⟩:=h2;obtain⟨v,_,_,h⟩:=g3 x hx c hc;exact h.born
 next i hi:=r.h.next i hi
theorem SL.fair{Q:Exit->St->Prop}{s:ESt}(h:Fair s->SL P L Q (qbc s)):SL P L Q (qbc s):=
 ⟨fun E M F a w r=>(h r.fair).out E M F a w r⟩
theorem qgs.fair{s:ESt}{st':St}(h:Fair s->qgs (qbc s) st'):qgs (qbc s) st':=fun E M F a w r=>h r.fair E M F a w r
def qad.add(H:qad)(id:Nat)(o:OD):qad:={ H with next:=id+1,obj:=fun k=>bif Nat.beq k id then o else H.obj k }
def qad.set(H:qad)(id:Nat)(o:OD):qad:={ H with obj:=fun k=>bif Nat.beq k id then o else H.obj k }
def ESt.on(s:ESt)(H:qad):ESt:={ s with heap:=H }
theorem qav{a b:Nat}(h:¬ a=b):Nat.beq a b=false:=by
 cases hb:Nat.beq a b with
 |false=>rfl
 |true=>exact absurd (zg2 hb) h
theorem qad.qg7{H H':qad}{k:Nat}(h:H'.obj k=H.obj k)(p:List Nat):H'.len k p=H.len k p:=by unfold qad.len;rw[h]
theorem qad.qsw{H:qad}{id:Nat}{o:OD}{k:Nat}(h:k≠id):(H.add id o).obj k=H.obj k:=by simp only[qad.add,qav h,cond_false]
theorem qad.qip{H:qad}{id:Nat}{o:OD}{k:Nat}(h:k≠id):(H.set id o).obj k=H.obj k:=by simp only[qad.set,qav h,cond_false]
theorem qsm{H:qbe}{len len':Len}(hl:∀id p,H.slot ⟨id,p⟩≠.qae->len' id p=len id p){k:Nat}{p:List Nat}{r c:Nat}{x:Cell}(h:qfq H (qbd len k p r c x)):qbd len' k p r c x=qbd len k p r c x:=by
 cases x with
 |ev u=>exact qgy hl u h
 |own t e l=>rfl
theorem qq8{len len':Len}{k:Nat}{o:OD}{p:List Nat}{a':qcu}(h:o.slot len' k p=.live a'):∃a,o.slot len k p=.live a/\a'.elem=a.elem/\a'.sz=a.sz/\a'.n=a.n/\a'.ver=a.ver /\
  (∀H:qbe,(∀id q,H.slot ⟨id,q⟩≠.qae->len' id q=len id q)->∀r,r<a.n->∀c,c<a.sz->qfq H (a.get r c)->a'.get r c=a.get r c):=by
 cases o with
 |none=>cases h
 |dead=>cases h
 |lst v=>
  simp only[OD.slot]at h ⊢;cases hv:v.at p with
  |none=>rw[hv]at h;cases h
  |some a=>
   rw[hv]at h;injection h with h;subst h;exact⟨_,rfl,rfl,rfl,rfl,rfl,fun H hl r hr c hc hb=>qsm hl hb⟩
 |cells e l=>
  cases p with
  |cons x y=>cases h
  |nil=>
   injection h with h;subst h;refine⟨_,rfl,rfl,rfl,rfl,rfl,fun H hl r hr c hc hb=>?_⟩;simp only at hb ⊢;rw[qde]at hb ⊢;rw[qde];exact qgy hl _ hb
 |hole v q r c u=>
  simp only[OD.slot]at h ⊢;split at h
  ·cases h
  ·rename_i hn;rw[if_neg hn];cases hv:v.at p with
   |none=>rw[hv]at h;cases h
   |some a=>
    rw[hv]at h;injection h with h;subst h;refine⟨_,rfl,rfl,rfl,rfl,rfl,fun H hl r' hr c' hc hb=>?_⟩;simp only[LV.qj0]at hb ⊢;split
    ·rename_i hx;rw[if_pos hx]at hb;exact qgy hl _ hb
    ·rename_i hne;rw[if_neg hne]at hb;exact qsm hl hb
 |mp s N g=>
  cases p with
  |cons x y=>cases h
  |nil=>cases h
theorem qlr{len':Len}{k:Nat}{o:OD}{p:List Nat}{s:Bool}{g':qce->Option V}(h:o.slot len' k p=.mp s g'):∃N g,o=.mp s N g/\p=[]/\g'=(fun x=>match g x with
  |some y=>some (.t (qj6 N y 0))
  | none=>none):=by
 cases o with
 |mp s' N g=>
  cases p with
  |cons x y=>cases h
  |nil=>injection h with h1 h2;subst h1;exact⟨N,g,rfl,rfl,h2.symm⟩
 |none=>cases h
 |dead=>cases h
 |lst v=>simp only[OD.slot]at h;cases hv:v.at p<;>rw[hv]at h<;>cases h
 |cells e l=>cases p<;>cases h
 |hole v q r c u=>
  simp only[OD.slot]at h;split at h
  ·cases h
  ·cases hv:v.at p<;>rw[hv]at h<;>cases h
theorem qfs{len len':Len}{k:Nat}{o:OD}{p:List Nat}:(o.slot len' k p=.dead↔o.slot len k p=.dead)/\(o.slot len' k p=.qae↔o.slot len k p=.qae):=by
 cases o with
 |none=>exact⟨Iff.rfl,Iff.rfl⟩
 |dead=>exact⟨Iff.rfl,Iff.rfl⟩
 |lst v=>simp only[OD.slot];cases v.at p<;>simp
 |cells e l=>cases p<;>simp[OD.slot]
 |hole v q r c u=>simp only[OD.slot];split<;>first|simp|(cases v.at p<;>simp)
 |mp s N g=>cases p<;>simp[OD.slot]
theorem qq9{len len':Len}{k:Nat}{o:OD}{p:List Nat}(h:o.slot len k p≠.qae)(hu:True):o.slot len' k p=.dead\/qaz (o.slot len k p) (o.slot len' k p):=by
 cases hs:o.slot len' k p with
 |dead=>exact .inl rfl
 |qae=>exact absurd ((qfs (len:=len)).2.1 hs) h
 |live a'=>
  obtain⟨a,h1,h2,h3,h4,h5,_⟩:=qq8 (len:=len) hs;rw[h1];exact .inr ⟨h5,h2,h3,h4⟩
 |mp s g'=>
  obtain⟨N,g,rfl,rfl,_⟩:=qlr hs;exact .inr trivial
end
end Go.Abs
namespace Go.Abs
open Go
variable {P:Program} {d:Option Tmp} {ty:TypeId} {L:List GOp}
theorem KG.same{H H':qbe}{Z:Id->Prop}(hl:∀i,H.slot i≠.qae->qaz (H.slot i) (H'.slot i)):∀u,KG H H' some Z u u:=by
 intro u
 induction u with
 |un=>exact KG.un
 |und=>exact KG.und
 |t x=>exact KG.t x
 |qby=>exact KG.qby
 |qej=>exact KG.qej
 |qek=>exact KG.qek
 |qel=>exact KG.qel
 |fp m g=>exact KG.fp
 |agg n g ih=>exact KG.agg fun j _=>ih j
 |tup n g ih=>exact KG.tup fun j _=>ih j
 |fn f n g ih=>exact KG.fn fun j _=>ih j
 |ptr id ver r c=>
  rintro E M F w v rr ⟨h0,h1⟩
  have hne:H.slot id≠.qae:=fun e=>by rw[e]at h1;exact h1
  have hl:=hl id hne;refine⟨h0,?_⟩;cases hs':H'.slot id with
  |dead=>trivial
  |mp s g=>trivial
  |qae=>rw[hs']at hl;cases hs:H.slot id<;>rw[hs]at hl<;>exact hl.elim
  |live o'=>
   rw[hs']at hl;cases hs:H.slot id with
   |live o=>
    rw[hs]at hl h1;obtain⟨a,b,c,d⟩:=hl;show ver<=o'.ver/\_;rw[a,c];exact h1
   |qae=>rw[hs]at hl;exact hl.elim
   |dead=>rw[hs]at hl;exact hl.elim
   |mp _ _=>rw[hs]at hl;exact hl.elim
 |qbq id ver r c=>
  rintro E M F w v rr ⟨h0,h1⟩
  have hne:H.slot id≠.qae:=fun e=>by rw[e]at h1;exact h1
  have hl:=hl id hne;refine⟨h0,?_⟩;cases hs':H'.slot id with
  |dead=>trivial
  |mp s g=>trivial
  |qae=>rw[hs']at hl;cases hs:H.slot id<;>rw[hs]at hl<;>exact hl.elim
  |live o'=>
   rw[hs']at hl;cases hs:H.slot id with
   |live o=>
    rw[hs]at hl h1;obtain⟨a,b,c,d⟩:=hl;show ver<=o'.ver/\_;rw[a,b,c,d];exact h1
   |qae=>rw[hs]at hl;exact hl.elim
   |dead=>rw[hs]at hl;exact hl.elim
   |mp _ _=>rw[hs]at hl;exact hl.elim
 |qcd id=>
  rintro E M F w v rr ⟨h0,h1⟩
  have hne:H.slot id≠.qae:=fun e=>by rw[e]at h1;exact h1
  have hl:=hl id hne;refine⟨h0,?_⟩;cases hs':H'.slot id with
  |dead=>trivial
  |live o'=>trivial
  |qae=>rw[hs']at hl;cases hs:H.slot id<;>rw[hs]at hl<;>exact hl.elim
  |mp s g=>
   rw[hs']at hl;cases hs:H.slot id with
   |mp _ _=>rw[hs]at h1;exact h1
   |qae=>rw[hs]at hl;exact hl.elim
   |dead=>rw[hs]at hl;exact hl.elim
   |live _=>rw[hs]at hl;exact hl.elim
theorem qgs.like{st st':St}(hn:st'.nt=st.nt)(hlo:st'.heap.lo=st.heap.lo)(hnx:Nx st.heap->Nx st'.heap)(hl:∀i,st.heap.slot i≠.qae->qaz (st.heap.slot i) (st'.heap.slot i))
  (hc:∀i o',st'.heap.slot i=.live o'->∃o,st.heap.slot i=.live o/\∀r,r<o.n->∀c,c<o.sz->Wk (o.get r c) (o'.get r c))
  (hm:∀i s g',st'.heap.slot i=.mp s g'->st.heap.slot i=.mp s g')
  (he:∀t,Wk (st.env t) (st'.env t)):qgs st st':=fun E M F a w r=>
 qgs.gen some (fun _=>False) hn ⟨hlo,hnx r.h.next,fun i o' h=>by
   obtain⟨o,ho,hw⟩:=hc i o' h;have:=hl i (by rw[ho];exact fun e=>by cases e)
   rw[ho,h]at this;obtain⟨a,b,c,d⟩:=this;exact .inr ⟨i,o,rfl,ho,fun h=>h,b,c,zij d,fun x hx y hy=>KG.qhy (hw x (by omega) y (by omega)) (KG.same hl _)⟩,
  fun i s g' h=>⟨i,g',rfl,hm i s g' h,fun h=>h,fun k=>by cases g' k<;>first|exact .inl ⟨rfl,rfl⟩|exact .inr ⟨_,_,rfl,rfl,KG.same hl _⟩⟩,
  fun i j x _ _ h1 h2=>by injection h1 with h1;injection h2 with h2;rw[h1,h2],
  fun i hi hp=>by
   by_cases hs:st.heap.slot i=.qae
   ·exact .inl hs
   ·exact .inr (.inr ⟨rfl,hl i hs⟩)⟩
  (fun t=>KG.qhy (he t) (KG.same hl _)) E M F a w r
section
variable [SU] [qa2]
theorem zce{s:ESt}{s':qad}(hf:Fair s)(hlen:∀id p,(toH s.heap).slot ⟨id,p⟩≠.qae->s'.len id p=s.heap.len id p){H1:qbe}{d:Option Tmp}{u0:V}{u:EV}(hu:d≠none->Wk u0 (toV s'.len u)) :
  ∀t,Wk ((((qbc s).on H1).put d u0).env t) (toV s'.len (((s.on s').put d u).env t)):=fun t=>by
 cases d with
 |none=>exact Wk.of_eq (qgy hlen _ (hf.env t)).symm
 |some d=>
  simp only[St.put,ESt.put];cases Nat.beq t d with
  |false=>exact Wk.of_eq (qgy hlen _ (hf.env t)).symm
  |true=>
   show Wk (bif Nat.blt d s.nt then u0 else .un) (toV s'.len (bif Nat.blt d s.nt then u else .un));cases Nat.blt d s.nt with
   |true=>exact hu (fun e=>by cases e)
   |false=>simp only[cond_false,toV];exact Wk.refl _
theorem qgv{s:ESt}{H1:qbe}{H':qad}{u0:V}{u:EV}(hf:Fair s)(k:Nat)(hobj:∀k',k'≠k->H'.obj k'=s.heap.obj k')
  (hlen:∀id p,(toH s.heap).slot ⟨id,p⟩≠.qae->H'.len id p=s.heap.len id p)
  (hH1:∀i:Id,i.k≠k->H1.slot i=(toH s.heap).slot i) (hlo:H'.lo=H1.lo) (hnx:Nx H1->Nx (toH H'))
  (hk1:∀p,H1.slot ⟨k,p⟩≠.qae->qaz (H1.slot ⟨k,p⟩) ((toH H').slot ⟨k,p⟩))
  (hk2:∀p o',(toH H').slot ⟨k,p⟩=.live o'->∃o,H1.slot ⟨k,p⟩=.live o/\∀r,r<o.n->∀c,c<o.sz->Wk (o.get r c) (o'.get r c))
  (hk3:∀p s g',(toH H').slot ⟨k,p⟩=.mp s g'->H1.slot ⟨k,p⟩=.mp s g')
  (d:Option Tmp) (hu:d≠none->Wk u0 (toV H'.len u)):qgs (((qbc s).on H1).put d u0) (qbc ((s.on H').put d u)):=by
 have hh1:(((qbc s).on H1).put d u0).heap=H1:=by rw[qcr];rfl
 have hh2:(qbc ((s.on H').put d u)).heap=toH H':=by rw[qaw,qcr];rfl
 have hslot:∀i:Id,i.k≠k->(toH H').slot i=(s.heap.obj i.k).slot H'.len i.k i.p:=fun i hi=>by
  show(H'.obj i.k).slot _ _ _=_;rw[hobj _ hi]
 refine qgs.like (by rw[qg2,qaw,qg2];rfl) (by rw[hh1,hh2];exact hlo) (by rw[hh1,hh2];exact hnx) (fun i=>?_) (fun i o'=>?_) (fun i sb g'=>?_) (fun t=>?_)
 ·rw[hh1,hh2];by_cases hi:i.k=k
  ·obtain⟨k',p⟩:=i;simp only at hi;subst hi;exact hk1 p
  ·intro hne;rw[hH1 i hi]at hne ⊢;rw[hslot i hi];rcases qq9 (len':=H'.len) (o:=s.heap.obj i.k) (len:=s.heap.len) (k:=i.k) (p:=i.p) hne trivial with h|h
   ·rw[h];trivial
   ·exact h
 ·rw[hh1,hh2];by_cases hi:i.k=k
  ·obtain⟨k',p⟩:=i;simp only at hi;subst hi;exact hk2 p o'
  ·intro ho;rw[hslot i hi]at ho;obtain⟨o,h1,h2,h3,h4,h5,h6⟩:=qq8 (len:=s.heap.len) ho;have h1':(toH s.heap).slot i=.live o:=h1;refine⟨o,(hH1 i hi).trans h1',fun r hr c hc=>Wk.of_eq ?_⟩;exact(h6 (toH s.heap) hlen r hr c hc (hf.obj i o h1' r hr c hc)).symm
 ·rw[hh1,hh2];by_cases hi:i.k=k
  ·obtain⟨k',p⟩:=i;simp only at hi;subst hi;exact hk3 p sb g'
  ·intro ho;rw[hslot i hi]at ho;obtain⟨N,g,h1,h2,h3⟩:=qlr ho;rw[hH1 i hi];show(s.heap.obj i.k).slot _ _ _=_;rw[h1,h2,h3];rfl
 ·have:=zce (s:=s) (s':=H') hf hlen (H1:=H1) (d:=d) hu t;rw[qaw]at *;have e:((qbc (s.on H')).put d (toV (s.on H').heap.len u)).env t=toV H'.len (((s.on H').put d u).env t):=by
   rw[<- qaw];show toV ((s.on H').put d u).heap.len _=_;cases d<;>rfl
  rw[e];exact this
def OD.flat:OD->Bool
 |.lst v=>qj2 v.N
 |.cells _ _=>true
 |.mp _ _ _=>true
 |_=>false
theorem LV.qud{v:LV}(h:qj2 v.N=true):∀p,p≠[]->v.at p=none
 |[],hp=>absurd rfl hp
 |[_],_=>LV.qfi _ _
 |c::r::p,_=>by
  rw[LV.qbu];have:v.kid c r=none:=by
   unfold LV.kid;obtain⟨u,e,_⟩:=qdt v.N (v.l.getD r v.N.z) c h;rw[e]
  rw[this]
theorem OD.qi6{o:OD}{len:Len}{k:Nat}(h:o.flat=true):∀p,p≠[]->o.slot len k p=.qae:=fun p hp=>by
 cases o with
 |lst v=>simp only[OD.slot,LV.qud h p hp]
 |cells e l=>cases p<;>first|exact absurd rfl hp|rfl
 |mp s N g=>cases p<;>first|exact absurd rfl hp|rfl
 |none=>rfl
 |dead=>cases h
 |hole v q r c u=>cases h
theorem qeg{s:ESt}{a:qcu}{o:OD}{u0:V}{u:EV}(hf:Fair s)(ho:o.flat=true){a':qcu}(hs:o.slot (s.heap.add s.heap.next o).len s.heap.next []=.live a')
  (h1:a'.ver=a.ver) (h2:a'.elem=a.elem) (h3:a'.sz=a.sz) (h4:a'.n=a.n) (h5:∀r,r<a.n->∀c,c<a.sz->Wk (a.get r c) (a'.get r c)) (d:Option Tmp) (hu:d≠none->Wk u0 (toV (s.heap.add s.heap.next o).len u)) :
  qgs (((qbc s).on ((qbc s).heap.qka s.heap.next a)).put d u0) (qbc ((s.on (s.heap.add s.heap.next o)).put d u)):=by
 have hsl:∀i:Id,((qbc s).heap.qka s.heap.next a).slot i=if i=⟨s.heap.next,[]⟩then .live a else(toH s.heap).slot i:=fun i=>by
  show(bif Id.beq i ⟨s.heap.next,[]⟩then _ else _)=_;exact qef _ _ _ _
 have hnew:∀p,(toH (s.heap.add s.heap.next o)).slot ⟨s.heap.next,p⟩=o.slot (s.heap.add s.heap.next o).len s.heap.next p:=fun p=>by
  show((s.heap.add s.heap.next o).obj s.heap.next).slot _ _ _=_;simp only[qad.add,zhc,cond_true]
 refine qgv hf s.heap.next (fun k' hk=>by simp only[qad.add,qav hk,cond_false]) (fun id p hb=>?_) (fun i hi=>?_) rfl (fun hn i hi=>?_) (fun p hne=>?_) (fun p o' hl=>?_) (fun p sb g' hl=>?_) d hu
 ·have:id≠s.heap.next:=fun e=>hb (hf.next ⟨id,p⟩ (by rw[e];exact zg3 _))
  exact qad.qg7 (qad.qsw this) p
 ·rw[hsl,if_neg (fun e=>hi (by rw[e]))]
 ·have hi:s.heap.next+1<=i.k:=hi;have hne:i.k≠s.heap.next:=by omega
  have:=hf.next i (by omega);have h':(s.heap.obj i.k).slot s.heap.len i.k i.p=.qae:=this;show((s.heap.add s.heap.next o).obj i.k).slot _ _ _=.qae;simp only[qad.add,qav hne,cond_false];exact(qfs (len:=s.heap.len)).2.2 h'
 ·rw[hsl]at hne ⊢;by_cases hp:p=[]
  ·subst hp;rw[if_pos rfl,hnew,hs];exact⟨h1,h2,h3,h4⟩
  ·rw[if_neg (fun e=>hp (by injection e))]at hne;exact absurd (hf.next ⟨s.heap.next,p⟩ (zg3 _)) hne
 ·rw[hnew]at hl;rw[hsl];by_cases hp:p=[]
  ·subst hp;rw[hs]at hl;injection hl with hl;subst hl;exact⟨a,if_pos rfl,h5⟩
  ·rw[OD.qi6 ho p hp]at hl;cases hl
 ·rw[hnew]at hl;by_cases hp:p=[]
  ·subst hp;rw[hs]at hl;cases hl
  ·rw[OD.qi6 ho p hp]at hl;cases hl
end
end Go.Abs
namespace Go.Abs
open Go
variable {P:Program} {Q:Exit->St->Prop} {st:St} {L:List GOp} {d:Option Tmp} {ty:TypeId}
theorem qou{s:Nat}:∀(vs:List Value) (k:Nat) (cells:Array Value),(∀v∈vs,v.cells.size=s)->(k+vs.length)*s<=cells.size ->
  ∃cs,Instr.fill (fun i=>some (i*s,s)) cells (vs.zipIdx k |>.map fun p=>(p.2,p.1))=some cs/\cs.size=cells.size /\
   (∀i j,i<vs.length->j<s->cs[(k+i)*s+j]?=(vs.getD i undef).cells[j]?)/\(∀x,x<k*s->cs[x]?=cells[x]?)
 |[],k,cells,h,hk=>⟨cells,rfl,rfl,fun i j hi=>absurd hi (zhf _),fun x _=>rfl⟩
 |v::vs,k,cells,h,hk=>by
  have hv:v.cells.size=s:=h v (by simp);simp only[zg1]at hk;have hle:k*s+s<=cells.size:=by
   have:(k+1)*s<=(k+(vs.length+1))*s:=zie _ (by omega);rw[zim,Nat.one_mul]at this;omega
  have hset:∀(l:List Value) (o:Nat) (cs:Array Value) (j0:Nat),o+j0+l.length<=cs.size->((l.zipIdx j0).foldl (fun cs (p:Value×Nat)=>cs.setIfInBounds (o+p.2) p.1) cs).size=cs.size /\
    (∀j,j<l.length->((l.zipIdx j0).foldl (fun cs (p:Value×Nat)=>cs.setIfInBounds (o+p.2) p.1) cs)[o+j0+j]?=l[j]?) /\
    (∀x,x<o+j0\/o+j0+l.length<=x->((l.zipIdx j0).foldl (fun cs (p:Value×Nat)=>cs.setIfInBounds (o+p.2) p.1) cs)[x]?=cs[x]?):=by
   intro l
   induction l with
   |nil=>intro o cs j0 _;exact⟨rfl,fun j hj=>absurd hj (zhf _),fun x _=>rfl⟩
   |cons a l ih=>
    intro o cs j0 hsz;simp only[zg1]at hsz;simp only[List.zipIdx_cons,zh8];obtain⟨i1,i2,i3⟩:=ih o (cs.setIfInBounds (o+j0) a) (j0+1) (by simp;omega)
    refine⟨by rw[i1];simp,fun j hj=>?_,fun x hx=>?_⟩
    ·cases j with
     |zero=>
      rw[i3 _ (by omega)];simp[zi7 (show o+j0<cs.size by omega)]
     |succ j=>
      have:=i2 j (by simpa using hj);rw[show o+j0+(j+1)=o+(j0+1)+j by omega,this];simp
    ·rw[i3 x (by simp only[zg1]at hx;omega)]
     rw[zi3 (by simp only[zg1]at hx;omega)]
  have hz:v.cells.zipIdx.foldl (fun cs (p:Value×Nat)=>cs.setIfInBounds (k*s+p.2) p.1) cells=(v.cells.toList.zipIdx 0).foldl (fun cs (p:Value×Nat)=>cs.setIfInBounds (k*s+p.2) p.1) cells:=by
   rw[<- Array.foldl_toList,Array.toList_zipIdx]
  obtain⟨g1,g2,g3⟩:=hset v.cells.toList (k*s) cells 0 (by simp[hv];omega)
  obtain⟨cs,r1,r2,r3,r4⟩:=qou vs (k+1) ((v.cells.toList.zipIdx 0).foldl (fun cs (p:Value×Nat)=>cs.setIfInBounds (k*s+p.2) p.1) cells) (fun x hx=>h x (by simp[hx])) (by rw[g1];rw[show k+1+vs.length=k+(vs.length+1)by omega];exact hk)
  refine⟨cs,?_,by rw[r2,g1],fun i j hi hj=>?_,fun x hx=>?_⟩
  ·simp only[List.zipIdx_cons,zhg,Instr.fill,hv];rw[if_neg (by simp;omega)]
   rw[<- r1,<- hz]
  ·cases i with
   |zero=>
    simp only[zh3,List.getD_cons_zero];rw[r4 _ (by rw[zim,Nat.one_mul];omega)]
    have:=g2 j (by simp[hv];exact hj)
    rw[zh3]at this;rw[this];simp
   |succ i=>
    have:=r3 i j (by simpa using hi) hj;rw[show k+(i+1)=k+1+i by omega,this];simp
  ·rw[r4 x (by rw[zim,Nat.one_mul];omega)]
   exact g3 x (.inl (by omega))
def partsOf(xs:List Operand):Array (Nat×Operand):=(xs.zipIdx.map fun p=>(p.2,p.1)).toArray
theorem qrp(xs:List Operand)(ev:Operand->Value):((partsOf xs).map fun p=>(p.1,ev p.2)).toList=((xs.map ev).zipIdx.map fun p=>(p.2,p.1)):=by
 simp[partsOf,List.zipIdx_map,Function.comp_def]
theorem SL.q65{t e:TypeId}{s by_:Nat}[ht:qb2 P t e s by_]{z:Value}[hz:qbb P e z]{xs:List Operand}{us:List V}(hzs:z.cells.size=s)(hx:xs.map st.eval=us)(hr:∀u∈us,u.qri s=true)(h0:0<s)
  (hb:xs.length*s<=16777216)
  (hk:SL P L Q ((st.on (st.heap.qka st.heap.next { elem:=e,sz:=s,ver:=0,n:=xs.length,get:=fun i j=>(us.getD i .un).row j })).put d (.qbq ⟨st.heap.next,[]⟩ 0 0 xs.length))) :
  SL P (⟨d,.buildSlice t xs.length (partsOf xs),ty,none⟩::L) Q st:=
 SL.value rfl fun E M F a w r=>by
  have hlen:us.length=xs.length:=by rw[<- hx];simp
  have hrow:∀i,i<xs.length->(a.eval (xs.getD i default)).cells.size=s/\∀j,j<s->∃c,(a.eval (xs.getD i default)).cells[j]?=some c/\c.oneCell'=true/\qay st.heap M F w ((us.getD i .un).row j) c:=fun i hi=>by
   have h1:us.getD i .un=st.eval (xs.getD i default):=by
    subst hx;simp[zg0,hi]
   have h2:us.getD i .un∈us:=by
    rw[zg0,zhb (by omega)];exact zh4 _
   exact V.qte (hr _ h2) (h1▸r.eval _)
  have hs:(sizeOf e).run P w=.ok s w:=by
   have hs:=ht.s;cases hq:P.info? e with
   |none=>simp[hq]at hs
   |some i=>simp[hq]at hs;simp[sizeOf,typeInfo,hq,hs]
  let zs:Array Value:=(Array.range (xs.length*s)).map fun i=>z.cells[i % z.cells.size]!
  obtain⟨cs,f1,f2,f3,-⟩:=qou (s:=s) (xs.map a.eval) 0 zs (fun v hv=>by
   obtain⟨x,hx',rfl⟩:=zhk.1 hv;obtain⟨i,hi,rfl⟩:=zis hx';have:=(hrow i hi).1;rwa [zg0,zhb hi]at this) (by simp[zs])
  have hsz:cs.size=xs.length*s:=by rw[f2];simp[zs]
  obtain⟨g1,g2⟩:=r.h.alloc { elem:=e,sz:=s,ver:=0,n:=xs.length,get:=fun i j=>(us.getD i .un).row j } cs (by
    have:xs.length*1<=xs.length*s:=Nat.mul_le_mul_left _ h0;show xs.length<=LEN;simp only[LEN];omega) (by show xs.length*s<=cs.size;omega) (fun i hi j hj=>by
   have hi:i<xs.length:=hi;have hj:j<s:=hj;obtain⟨c,c1,c2,c3⟩:=(hrow i hi).2 j hj;refine⟨c,?_,c2,c3⟩;show cs[i*s+j]?=some c;have:=f3 i j (by simpa using hi) hj;rw[zg9]at this;rw[this,<- c1];simp[zg0,hi])
  refine⟨.slice (some ⟨w.heap.size,0,none⟩) xs.length xs.length,_,_,F,_,.qbq ⟨st.heap.next,[]⟩ 0 0 xs.length,?_,g1,g2,⟨rfl,?_⟩,hk⟩
  rotate_left
  ·rw[qbe.qjf];exact⟨zg3 _,fun _=>⟨by show 0+xs.length<=xs.length;omega,some ⟨w.heap.size,0,none⟩,xs.length,rfl,zg3 _,fun _=>⟨w.heap.size,cs,qf8 _ _ _,by simp,by show(w.heap.push _)[w.heap.size]?=_;simp,by show 0*s+xs.length*s<=cs.size;omega⟩⟩⟩
  ·have hp:((partsOf xs).map fun p=>(p.1,a.eval p.2)).toList=((xs.map a.eval).zipIdx.map fun p=>(p.2,p.1)):=qrp xs a.eval;have hno:¬ xs.length*s>2^24:=by omega
   by_cases hz0:xs.length*s=0
   ·have hz1:((Array.range (xs.length*s)).map fun i=>(#[]:Array Value)[i % (#[]:Array Value).size]!)=zs:=by
     apply Array.ext<;>simp[zs,hz0]
    simp only[execOp,GOp.oper,Instr.buildSlice,Sem.run_bind,qai ht.d,Result.andThen_ok,hs,if_neg hno,if_pos hz0,hp];simp only[Sem.run_pure,Result.andThen_ok,hz1,f1,newRow,run_newObj,Sem.run_bind];rfl
   ·simp only[execOp,GOp.oper,Instr.buildSlice,Sem.run_bind,qai ht.d,Result.andThen_ok,hs,if_neg hno,if_neg hz0,hp,qil (P:=P) (t:=e)];simp only[Sem.run_pure,Result.andThen_ok,newRow,run_newObj,Sem.run_bind];rw[show((Array.range (xs.length*s)).map fun i=>z.cells[i % z.cells.size]!)=zs from rfl,f1];simp only[Sem.run_bind,run_newObj,Result.andThen_ok,Sem.run_pure];rfl
theorem SL.zex{t e:TypeId}{s by_:Nat}[ht:qb2 P t e s by_]{z:Value}[hz:qbb P e z]{x y:Operand}{kx ky:IntKind}{m:Int}{n:Nat}(hzs:z.cells.size=s)(hx:st.eval x=.t (.int kx m))(hy:st.eval y=.t (.int ky m))(hm:m=n)(h0:0<s)
  (hb:n*by_<=140737488355328) (hl:n<=LEN)
  (hk:SL P L Q ((st.on (st.heap.qka st.heap.next { elem:=e,sz:=s,ver:=0,n:=n,get:=fun _ j=>V.cell (z.cells.getD j undef) })).put d (.qbq ⟨st.heap.next,[]⟩ 0 0 n))) :
  SL P (⟨d,.makeSlice t x y,ty,none⟩::L) Q st:=
 SL.value rfl fun E M F a w r=>by
  subst hm;have hn:(n:Int)<=281474976710656:=by simp only[LEN]at hl;omega
  obtain⟨i,hi,hi1,hi2⟩:∃i,P.info? e=some i/\i.size=s/\i.bytes=by_:=by
   have hs:=ht.s;cases hq:P.info? e with
   |none=>simp[hq]at hs
   |some i=>simp[hq]at hs;exact⟨i,rfl,hs.1,hs.2⟩
  have hiz:i.zero=some z:=by
   have hz0:=hz.z;rw[hi]at hz0;simpa using hz0
  have hbi:((i.bytes:Nat):Int)*(n:Int)<=281474976710656:=by
   rw[hi2];have h1:by_*n<=140737488355328:=by rw[Nat.mul_comm];exact hb
   have h2:((by_*n:Nat):Int)<=140737488355328:=by omega
   rw[Int.natCast_mul]at h2;omega
  have hrun:=run_make (P:=P) w t e i z ht.d hi hiz kx ky (n:Int) (n:Int) (by omega) (Int.le_refl _) hbi (by omega);have htn:(n:Int).toNat=n:=by simp
  rw[htn,hi1]at hrun;have hcell:∀i,i<n->∀j,j<s->(madeCells z.cells (n*s))[i*s+j]?=z.cells[j]?:=fun i hi j hj=>by
   have hlt:i*s+j<n*s:=qry hi hj;have hm:(i*s+j) % s=j:=by rw[zil,Nat.add_mul_mod_self_right,Nat.mod_eq_of_lt hj]
   have hj':j<z.cells.size:=by omega
   have e1:z.cells[j]! = z.cells[j]:=getElem!_pos _ _ _;simp[madeCells,hlt,hzs,hm,hj',e1]
  obtain⟨g1,g2⟩:=r.h.alloc { elem:=e,sz:=s,ver:=0,n:=n,get:=fun _ j=>V.cell (z.cells.getD j undef) } (madeCells z.cells (n*s)) hl (by rw[size_madeCells];exact zg3 _) (fun i hi j hj=>by
   have hj:j<s:=hj;have hj':j<z.cells.size:=by omega
   refine⟨z.cells[j],?_,?_,?_⟩
   ·show(madeCells z.cells (n*s))[i*s+j]?=_;rw[hcell i hi j hj];exact zhp hj'
   ·exact zi2.1 hz.c _ (Array.getElem_mem hj')
   ·show qay _ _ _ _ (V.cell (z.cells.getD j undef)) _;rw[zhl,zhp hj',zhi];exact V.qhp _ _ _ _ _)
  refine⟨.slice (some ⟨w.heap.size,0,none⟩) n n,_,_,F,_,.qbq ⟨st.heap.next,[]⟩ 0 0 n,?_,g1,g2,⟨rfl,?_⟩,hk⟩
  rotate_left
  ·rw[qbe.qjf];exact⟨zg3 _,fun _=>⟨by show 0+n<=n;omega,some ⟨w.heap.size,0,none⟩,n,rfl,zg3 _,fun _=>⟨w.heap.size,madeCells z.cells (n*s),qf8 _ _ _,by simp,by show(w.heap.push _)[w.heap.size]?=_;simp,by show 0*s+n*s<=_;rw[size_madeCells];omega⟩⟩⟩
  ·simp only[execOp,GOp.oper,qb5 r hx,qb5 r hy,hrun,Sem.run_bind,Result.andThen_ok];rfl
theorem SL.q2f{st:St}{t e:TypeId}{s by_:Nat}[ht:qb2 P t e s by_]{z:Value}[hz:qbb P e z]{x y:Operand}{m:Nat}{news:Nat->Nat->V}{o:qcu}(o1:o.elem=e)(o2:o.sz=s)(o3:o.ver=0)(o4:o.n=0)
  (hx:st.eval x=.qby) (hzs:z.cells.size=s) (hy:Src st y m s news)
  (hb:m*by_<=140737488355328) (hl:m<=LEN)
  (hk:SL P L Q ((st.on ((st.heap.qka st.heap.next o).set ⟨st.heap.next,[]⟩ (o.app m news))).put d (.qbq ⟨st.heap.next,[]⟩ (o.ver+1) 0 (o.n+m)))) :
  SL P (⟨d,.call { callee:=.builtin .append,args:=#[x,y],argTypes:=#[t,t] },ty,none⟩::L) Q st:=
 SL.value rfl fun E M F a w r=>by
  subst o1;obtain⟨r1,x1⟩:=r.h.zc9 ⟨st.heap.next,[]⟩ o (st.heap.qka st.heap.next o) (fun i=>by simp only[qbe.qka];exact qef _ _ _ _) (fun i hi=>(by simp only[qbe.qka]at hi;exact⟨fun e=>by subst e;simp at hi;omega,by omega⟩)) rfl o4
   (by rw[r.h.next _ (zg3 _)];trivial)
  have hxv:a.eval x=.slice none 0 0:=by have:=r.eval x;rw[hx]at this;exact this
  obtain⟨B,c,g1,g2,g3⟩:=hy E M F a w r;have ho:(st.heap.qka st.heap.next o).slot ⟨st.heap.next,[]⟩=.live o:=by simp only[qbe.qka,Id.beq_refl,cond_true]
  obtain⟨A',cap',w',ι',q1,q2,q3,q4⟩:=r1.append (P:=P) (t:=t) (ty':=ty) (s:=s) (by_:=by_) (z:=z) hzs ho o2 rfl (A:=none) (cap:=0) (zij o4) (fun hc=>absurd hc (zio _)) g2 (fun hm=>by
   obtain⟨ad,k1,k2⟩:=g3 hm;exact⟨ad,k1,fun i hi j hj=>by
    obtain⟨v,v1,v2,v3⟩:=k2 i hi j hj;exact⟨v,v1,v2,x1 _ _ v3⟩⟩) (by rw[o4,zg9];exact hb) (by rw[o4];omega)
  have q1:(Builtin.append_ #[t,t] ty #[.slice none 0 0,.slice B m c]).run P w=.ok (.slice A' (o.n+m) cap') w':=by rw[<- q1,o4]
  exact⟨_,w',ι',F,_,_,by simp[execOp,GOp.oper,resolve,invoke,builtin,hxv,g1,q1],q2,x1.trans q3,q4,hk⟩
end Go.Abs
namespace Go.Abs
open Go
noncomputable section
variable {P:Program} {d:Option Tmp} {ty:TypeId} {L:List GOp} {ρ:Type}
theorem V.qnd(H:qbe)(v:Value):qfq H (V.cell v):=by
 unfold V.cell
 split<;>first|trivial|(generalize Nat.ble _ _=b;cases b<;>trivial)
section
variable [SU] [qa2] {Q:Exit->ESt->Prop}
class TyE(P:Program)[Tys P] where
 c:TypeId->Option Ty
 fro:∀t N,c t=some N->qj2 N=true
 zero:∀t N z,c t=some N->(Tys.c P t).zero=some z->N.sz=z.cells.size/\∀j,j<N.sz->∃u,qam N N.z j=.ev u/\∀len,Wk (V.cell (z.cells.getD j undef)) (toV len u)
 o:TypeId->Option Ty
 zgo:∀t N z,o t=some N->(Tys.c P t).zero=some z->N.sz=z.cells.size/\∀j,j<N.sz->(∃u,qam N N.z j=.ev u/\∀len,Wk (V.cell (z.cells.getD j undef)) (toV len u))\/∃t' e',qam N N.z j=.own t' e' []/\V.cell (z.cells.getD j undef)=.qby
def EV.one:EV->Bool
 |.un=>false
 |.und=>false
 |.agg _=>false
 |.tup _=>false
 |.st _ _=>false
 |_=>true
theorem EV.qtk{len:Len}{u:EV}(h:u.one=true):(toV len u).one=true:=by
 cases u<;>first
  |(cases h;done)
  |rfl
  |(rename_i id p;simp only[toV];cases len id p<;>rfl)
theorem qm5(v:Value)(l:List EV):qdr v≠.agg l:=by
 unfold qdr
 split<;>try(intro h;cases h;done)
 rename_i x;cases h:Nat.ble x.size 9223372036854775807<;>simp only[h,cond_true,cond_false]<;>intro h<;>cases h
theorem qxh(v:Value)(f:FuncId)(l:List EV):qdr v≠.fn f l:=by
 unfold qdr
 split<;>try(intro h;cases h;done)
 rename_i x;cases h:Nat.ble x.size 9223372036854775807<;>simp only[h,cond_true,cond_false]<;>intro h<;>cases h
theorem qes(v:Value):(∃cs,v=.agg cs)\/qs0 v=qdr v:=by
 cases v<;>first|exact .inl ⟨_,rfl⟩|exact .inr rfl
theorem q6a{s:ESt}{x:Operand}{l:List EV}(h:s.eval x=.agg l):∃g,(qbc s).eval x=.agg l.length g/\∀j,j<l.length->Wk (g j) (qa3 s.heap.len l j):=by
 have hw:=s.qdj x;rw[h]at hw;simp only[toV]at hw;cases x with
 |tmp t=>
  refine⟨qa3 s.heap.len l,?_,fun j hj=>Wk.refl _⟩;have:(qbc s).eval (.tmp t)=toV s.heap.len (s.eval (.tmp t)):=rfl;rw[this,h];simp only[toV]
 |const v=>
  rcases qes v with⟨cs,rfl⟩|e
  ·simp only[ESt.eval,qs0]at h;cases ha:cs.all (·.oneCell')with
   |false=>rw[ha]at h;cases h
   |true=>
    rw[ha]at h;simp only[cond_true]at h;injection h with h;subst h;refine⟨fun j=>V.cell (cs.getD j undef),?_,fun j hj=>Wk.of_eq ?_⟩
    ·simp only[St.eval,V.ofValue,ha,cond_true,zha,zit]
    ·simp only[zha,zit]at hj;rw[qde];simp[zg0,hj,zhl,qc7]
  ·simp only[ESt.eval]at h;rw[e]at h;exact(qm5 v l h).elim
 |global g=>cases h
 |func f=>cases h
theorem qu7{s:ESt}{x:Operand}(h:(s.eval x).one=true):∃u,(qbc s).eval x=u/\u.one=true/\Wk u (toV s.heap.len (s.eval x)):=by
 refine⟨_,rfl,?_,s.qdj x⟩;cases hx:(s.eval x).isAgg with
 |false=>rw[eval_eq rfl hx];exact EV.qtk h
 |true=>
  cases x with
  |tmp t=>exact EV.qtk (len:=s.heap.len) h
  |const v=>
   exfalso;simp only[ESt.eval]at h hx;rcases qes v with⟨cs,rfl⟩|e
   ·simp only[qs0]at h;cases ha:cs.all (·.oneCell')<;>rw[ha]at h<;>cases h
   ·rw[e]at hx h;cases hv:qdr v with
    |agg l=>exact qm5 v l hv
    |fn f l=>exact qxh v f l hv
    |_=>rw[hv]at hx;cases hx
  |global g=>cases h
  |func f=>rfl
def zfj(e:TypeId)(τo:Option Ty)(u:EV)(K:OD->Option ρ):Option ρ:=match u with
 |.st i v=>bif qa2.fro i then K (.lst ⟨e,.st i,[v]⟩)else none
 |.agg l=>match τo with
  |some (.st i)=>match qa2.make i l with
   |some y=>bif qa2.fro i then K (.lst ⟨e,.st i,[y]⟩)else K (.cells e l)
   |none=>K (.cells e l)
  |_=>K (.cells e l)
 |u=>bif u.one then K (.cells e [u])else none
def qvd(s:ESt)(d:Option Tmp)(u:Nat->EV)(K:ESt->Option ρ)(o:OD):Option ρ:=qw6 s.heap.next fun id=>K ((s.on (s.heap.add id o)).put d (u id))
theorem qfm(s:ESt)(d:Option Tmp)(u:Nat->EV)(K:ESt->Option ρ)(o:OD):qvd s d u K o=K ((s.on (s.heap.add s.heap.next o)).put d (u s.heap.next)):=qfo _ _
theorem q31{len:Len}{k:Nat}{e:TypeId}{i:Nat}{v:SU.D i}:(OD.lst ⟨e,.st i,[v]⟩).slot len k []=.live { elem:=e,sz:=SU.sz i,ver:=0,n:=1,get:=fun r c=>qbd len k [] r c (qam (.st i) (LV.row ⟨e,.st i,[v]⟩ r) c) }:=by
 simp only[OD.slot,LV.qa6];rfl
theorem qqo{e:TypeId}{i:Nat}{v:SU.D i}(h:qa2.fro i=true):(OD.lst ⟨e,.st i,[v]⟩).flat=true:=h
theorem qnf{len:Len}{k:Nat}{e:TypeId}{i:Nat}{v:SU.D i}{g:Nat->V}(hg:∀j,j<SU.sz i->∃u,qa2.cell i v j=.ev u/\Wk (g j) (toV len u)) :
  ∃a',(OD.lst ⟨e,.st i,[v]⟩).slot len k []=.live a'/\a'.ver=0/\a'.elem=e/\a'.sz=SU.sz i/\a'.n=1/\∀r,r<1->∀c,c<SU.sz i->Wk (g c) (a'.get r c):=by
 refine⟨_,q31,rfl,rfl,rfl,rfl,fun r hr c hc=>?_⟩;obtain rfl:r=0:=by omega
 obtain⟨u,e1,e2⟩:=hg c hc;show Wk (g c) (qbd len k [] 0 c (qam (.st i) v c));simp only[qam,e1,qbd];exact e2
theorem q9a[T:Tys P][TyE P]{s:ESt}{e:TypeId}{x:Operand}{K:ESt->Option ρ}{res:ρ}(hK:∀s',K s'=some res->SLT P L Q s')
  (h:zfj e (TyE.c P e) (s.eval x) (qvd s d (fun id=>.ptr id [] 0 0) K)=some res):SLT P (⟨d,.box e x,ty,none⟩::L) Q s:=by
 refine⟨SL.fair fun hf=>?_⟩;unfold zfj at h;split at h
 ·rename_i i v hx;have hx:=eval_eq hx rfl;simp only[toV]at hx;obtain⟨h1,h⟩:=qaf h;rw[qfm]at h;obtain⟨a',q1,q2,q3,q4,q5,q6⟩:=qnf (len:=(s.heap.add s.heap.next (.lst ⟨e,.st i,[v]⟩)).len) (k:=s.heap.next) (e:=e) (v:=v) (g:=fun j=>.t (SU.enc i v j)) (fun j hj=>by
   obtain⟨u,e1,e2⟩:=qa2.qed i v j h1;exact⟨u,e1,Wk.of_eq (e2 hj _).symm⟩)
  refine SL.qih _ rfl hx (SL.weak (qeg (a:=V.boxed e (SU.sz i) (fun j=>.t (SU.enc i v j))) (u:=.ptr s.heap.next [] 0 0) hf (qqo h1) q1 q2 q3 q4 q5 q6 d (fun _=>?_)) (hK _ h).out);simp only[toV];exact Wk.refl _
 ·rename_i l hx;obtain⟨g,hg,hw⟩:=q6a hx;have fall:qvd s d (fun id=>.ptr id [] 0 0) K (.cells e l)=some res->SL P (⟨d,.box e x,ty,none⟩::L) (qe9 Q) (qbc s):=fun h=>by
   rw[qfm]at h;have hlen:∀id p,(toH s.heap).slot ⟨id,p⟩≠.qae->(s.heap.add s.heap.next (.cells e l)).len id p=s.heap.len id p:=fun id p hb=>by
    have:id≠s.heap.next:=fun e=>hb (hf.next ⟨id,p⟩ (by rw[e];exact zg3 _))
    exact qad.qg7 (qad.qsw this) p
   have hb:∀j,j<l.length->qfq (toH s.heap) (qa3 s.heap.len l j):=fun j hj=>by
    cases x with
    |tmp t=>
     have:=hf.env t;have hx:s.env t=.agg l:=hx;rw[hx]at this;simp only[toV]at this;exact this j hj
    |const v=>
     rcases qes v with⟨cs,rfl⟩|e
     ·simp only[ESt.eval,qs0]at hx;cases ha:cs.all (·.oneCell')with
      |false=>rw[ha]at hx;cases hx
      |true=>
       rw[ha]at hx;simp only[cond_true]at hx;injection hx with hx;subst hx;rw[qde];simp only[zha,zit]at hj;simp only[zg0,zh5,zh6,zhp hj,zii,zhi];rw[qc7];exact V.qnd _ _
     ·simp only[ESt.eval]at hx;rw[e]at hx;exact(qm5 v l hx).elim
    |global g=>cases hx
    |func f=>cases hx
   refine SL.qih _ rfl hg (SL.weak (qeg (a:=V.boxed e l.length g) (o:=.cells e l) (u:=.ptr s.heap.next [] 0 0) hf rfl rfl rfl rfl rfl rfl (fun r hr c hc=>?_) d (fun _=>?_)) (hK _ h).out)
   ·have hc:c<l.length:=hc;show Wk (g c) (qa3 _ l c);rw[qf9 hlen l hb];exact hw c hc
   ·simp only[toV];exact Wk.refl _
  split at h
  ·split at h
   ·rename_i i hi _ y hy;cases h1:qa2.fro i with
    |false=>rw[h1]at h;exact fall h
    |true=>
     rw[h1]at h;simp only[cond_true]at h;rw[qfm]at h;obtain⟨m1,m2⟩:=qa2.qp1 _ _ _ hy;obtain⟨a',q1,q2,q3,q4,q5,q6⟩:=qnf (len:=(s.heap.add s.heap.next (.lst ⟨e,.st i,[y]⟩)).len) (k:=s.heap.next) (e:=e) (v:=y) (g:=g) (fun j hj=>by
      obtain⟨u,e1,e2⟩:=m2 j hj;obtain⟨u',e1',e3⟩:=qa2.qed i y j h1;rw[e1]at e1';injection e1' with e1';subst e1';exact⟨u,e1,(hw j (by omega)).trans ((e2 _).trans (Wk.of_eq ((e3 hj _).trans (e3 hj _).symm)))⟩)
     refine SL.qih _ rfl hg (SL.weak (qeg (a:=V.boxed e l.length g) (u:=.ptr s.heap.next [] 0 0) hf (qqo h1) q1 q2 q3 (q4.trans m1.symm) q5 (fun r hr c hc=>q6 r hr c (by have hc:c<l.length:=hc;omega)) d (fun _=>?_)) (hK _ h).out)
     simp only[toV];exact Wk.refl _
   ·exact fall h
  ·exact fall h
 ·rename_i hne1 hne2;obtain⟨h1,h⟩:=qaf h;rw[qfm]at h;obtain⟨u,hu1,hu2,hu3⟩:=qu7 h1;have hb:qfq (toH s.heap) (toV s.heap.len (s.eval x)):=by
   cases x with
   |tmp t=>exact hf.env t
   |const v=>
    show qfq _ (toV _ (qs0 v));rcases qes v with⟨cs,rfl⟩|e
    ·simp only[ESt.eval,qs0]at h1;cases ha:cs.all (·.oneCell')<;>rw[ha]at h1<;>cases h1
    ·rw[e,qc7];exact V.qnd _ _
   |global g=>cases h1
   |func f=>simp only[ESt.eval,toV];intro j hj;exact absurd hj (zhf _)
  have hlen:∀id p,(toH s.heap).slot ⟨id,p⟩≠.qae->(s.heap.add s.heap.next (.cells e [s.eval x])).len id p=s.heap.len id p:=fun id p hb=>by
   have:id≠s.heap.next:=fun e=>hb (hf.next ⟨id,p⟩ (by rw[e];exact zg3 _))
   exact qad.qg7 (qad.qsw this) p
  refine SL.qj8 _ rfl hu1 hu2 (SL.weak (qeg (a:=V.boxed e 1 (fun _=>u)) (o:=.cells e [s.eval x]) (u:=.ptr s.heap.next [] 0 0) hf rfl rfl rfl rfl rfl rfl (fun r hr c hc=>?_) d (fun _=>?_)) (hK _ h).out)
  ·have hc:c<1:=hc;obtain rfl:c=0:=by omega
   show Wk u (qa3 _ [s.eval x] 0);simp only[qa3];rw[qgy hlen _ hb];exact hu3
  ·simp only[toV];exact Wk.refl _
def q2i(P:Program)[Tys P][TyE P](e:TypeId)(K:OD->Option ρ):Option ρ:=match(Tys.c P e).zero with
 |some z=>match TyE.c P e with
  |some (.st i)=>K (.lst ⟨e,.st i,[SU.z i]⟩)
  |_=>K (.cells e (z.cells.toList.map qdr))
 |none=>none
theorem q2h[T:Tys P][TE:TyE P]{s:ESt}{e:TypeId}{K:ESt->Option ρ}{res:ρ}(hK:∀s',K s'=some res->SLT P L Q s')
  (h:q2i P e (qvd s d (fun id=>.ptr id [] 0 0) K)=some res):SLT P (⟨d,.alloc e,ty,none⟩::L) Q s:=by
 refine⟨SL.fair fun hf=>?_⟩;unfold q2i at h;split at h
 ·rename_i z hz;have:=(T.ok _).zero _ hz;have fall:qvd s d (fun id=>.ptr id [] 0 0) K (.cells e (z.cells.toList.map qdr))=some res->SL P (⟨d,.alloc e,ty,none⟩::L) (qe9 Q) (qbc s):=fun h=>by
   rw[qfm]at h;refine SL.qfj _ rfl (SL.weak (qeg (a:=V.boxed e z.cells.size (fun j=>V.cell (z.cells.getD j undef))) (o:=.cells e (z.cells.toList.map qdr)) (u:=.ptr s.heap.next [] 0 0) hf rfl rfl rfl rfl (by simp[V.boxed]) rfl (fun r hr c hc=>?_) d (fun _=>?_)) (hK _ h).out)
   ·have hc:c<z.cells.size:=hc;show Wk (V.cell (z.cells.getD c undef)) (qa3 _ (z.cells.toList.map qdr) c);rw[qde];refine Wk.of_eq ?_;simp[zg0,hc,zhl,qc7]
   ·simp only[toV];exact Wk.refl _
  split at h
  ·rename_i i hτ;rw[qfm]at h;have h1:=TE.fro e _ hτ;obtain⟨z1,z2⟩:=TE.zero e _ z hτ hz;obtain⟨a',q1,q2,q3,q4,q5,q6⟩:=qnf (len:=(s.heap.add s.heap.next (.lst ⟨e,.st i,[SU.z i]⟩)).len) (k:=s.heap.next) (e:=e) (v:=SU.z i) (g:=fun j=>V.cell (z.cells.getD j undef)) (fun j hj=>by
    obtain⟨u,e1,e2⟩:=z2 j hj;exact⟨u,e1,e2 _⟩)
   refine SL.qfj _ rfl (SL.weak (qeg (a:=V.boxed e z.cells.size (fun j=>V.cell (z.cells.getD j undef))) (u:=.ptr s.heap.next [] 0 0) hf (qqo h1) q1 q2 q3 (q4.trans (show SU.sz i=z.cells.size from z1)) q5 (fun r hr c hc=>q6 r hr c (by have hc:c<z.cells.size:=hc;have z1:SU.sz i=z.cells.size:=z1;omega)) d (fun _=>?_)) (hK _ h).out)
   simp only[toV];exact Wk.refl _
  ·exact fall h
 ·cases h
end
end
end Go.Abs
namespace Go.Abs
open Go
noncomputable section
variable {P:Program} {d:Option Tmp} {ty:TypeId} {L:List GOp} {ρ:Type}
section
variable [SU] [qa2] {Q:Exit->ESt->Prop}
def rowOf(N:Ty)(u:EV):Option N.D:=match N,u with
 |.st i',.st i v=>bif qa2.fro i then qt2 SU.D i i' v else none
 |.st i,.agg l=>qa2.make i l
 |.st _,_=>none
 |N,u=>bif u.one then qww N N.z 0 u else none
theorem qu1{len:Len}{N:Ty}{u:EV}{y:N.D}(h:rowOf N u=some y):(toV len u).qri N.sz=true/\∀j,j<N.sz->∃u',qam N y j=.ev u'/\∀len',Wk ((toV len u).row j) (toV len' u'):=by
 have flat:N.zf3=false->(bif u.one then qww N N.z 0 u else none)=some y->(toV len u).qri N.sz=true/\∀j,j<N.sz->∃u',qam N y j=.ev u'/\∀len',Wk ((toV len u).row j) (toV len' u'):=fun hs h=>by
  have hz:=sz1 hs;obtain⟨ho,h⟩:=qaf h;have h1:=EV.qtk (len:=len) ho;refine⟨?_,fun j hj=>?_⟩
  ·rw[hz]
   cases hv:toV len u<;>rw[hv]at h1<;>first|rfl|(cases h1;done)|(simp only[V.qri,h1];rfl)
  ·obtain⟨_,⟨u',e1,e2⟩,_⟩:=qlw N N.z 0 u y h;obtain rfl:j=0:=by omega
   refine⟨u',e1,fun len'=>?_⟩;have e:(toV len u).row 0=toV len u:=by
    cases hv:toV len u<;>rw[hv]at h1<;>first|rfl|(cases h1;done)
   rw[e,<- EV.qm9 (qbf _ _ _ _ e1) len len'];exact e2 len
 cases N with
 |st i=>
  cases u<;>simp only[rowOf]at h<;>try(cases h;done)
  ·rename_i i' v;obtain⟨hf,h⟩:=qaf h;obtain⟨e,h⟩:=qi9 _ _ _ _ _ h;subst e;obtain rfl:=eq_of_heq h;refine⟨by simp only[toV,V.qri,Ty.sz,zhc],fun j hj=>?_⟩;obtain⟨u',e1,e2⟩:=qa2.qed i' v j hf;refine⟨u',e1,fun len'=>?_⟩;simp only[toV,V.row];exact Wk.of_eq (e2 hj _).symm
  ·rename_i l;obtain⟨m1,m2⟩:=qa2.qp1 _ _ _ h;refine⟨by simp only[toV,V.qri,Ty.sz,m1,zhc],fun j hj=>?_⟩;obtain⟨u',e1,e2⟩:=m2 j hj;refine⟨u',e1,fun len'=>?_⟩;simp only[toV,V.row];rw[<- EV.qm9 (qbf (.st i) y _ _ e1) len len'];exact e2 len
 |bool=>exact flat rfl h
 |int k=>exact flat rfl h
 |str=>exact flat rfl h
 |sl e=>exact flat rfl h
 |ol t e=>exact flat rfl h
def rowsOf(N:Ty):List EV->Option (List N.D)
 |[]=>some []
 |u::l=>match rowOf N u,rowsOf N l with
  |some y,some m=>some (y::m)
  |_,_=>none
theorem qrh{N:Ty}:∀ {l:List EV} {m:List N.D},rowsOf N l=some m->m.length=l.length/\∀i,i<l.length->rowOf N (l.getD i .un)=some (m.getD i N.z)
 |[],m,h=>by simp only[rowsOf]at h;injection h with h;subst h;exact⟨rfl,fun i hi=>absurd hi (zhf _)⟩
 |u::l,m,h=>by
  simp only[rowsOf]at h;split at h
  ·rename_i y k h1 h2;injection h with h;subst h;obtain⟨i1,i2⟩:=qrh h2;refine⟨by simp[i1],fun i hi=>?_⟩;cases i with
   |zero=>simpa using h1
   |succ i=>simpa using i2 i (by simpa using hi)
  ·cases h
def ql8:List (Nat×Operand)->Nat->Nat->Bool
 |[],k,n=>Nat.beq k n
 |(i,_)::l,k,n=>Nat.beq i k&&ql8 l (k+1) n
theorem ql7:∀ {l:List (Nat×Operand)} {k n:Nat},ql8 l k n=true->n=k+l.length/\l=((l.map (·.2)).zipIdx k).map fun p=>(p.2,p.1)
 |[],k,n,h=>⟨by have:=qbl h;simp;omega,rfl⟩
 |(i,x)::l,k,n,h=>by
  simp only[ql8,zgz]at h;obtain rfl:=qbl h.1;obtain⟨h1,h2⟩:=ql7 h.2;refine⟨by simp;omega,?_⟩
  simp only[zhg,List.zipIdx_cons];congr 1
theorem qw4{A:Array (Nat×Operand)}{n:Nat}(h:ql8 A.toList 0 n=true):n=(A.toList.map (·.2)).length/\A=partsOf (A.toList.map (·.2)):=by
 obtain⟨h1,h2⟩:=ql7 h;refine⟨by simpa using h1,?_⟩;unfold partsOf;rw[<- h2]
def qki(s:ESt):List Operand->(List EV->Option ρ)->Option ρ
 |[],K=>K []
 |x::l,K=>fE (s.eval x) fun u=>qki s l fun m=>K (u::m)
theorem qf3(s:ESt):∀(l:List Operand) (K:List EV->Option ρ),qki s l K=K (l.map s.eval)
 |[],K=>rfl
 |x::l,K=>by simp only[qki,qj4,zhg];exact qf3 s l _
def qjy:List Operand->Bool
 |[]=>true
 |.const (.agg _)::_=>false
 |.func _::_=>false
 |_::l=>qjy l
theorem qkg{x:Operand}{l:List Operand}(h:qjy (x::l)=true):qjy l=true/\∀s:ESt,(qbc s).eval x=toV s.heap.len (s.eval x):=by
 cases x with
 |tmp t=>exact⟨h,fun s=>rfl⟩
 |const v=>
  have hv:∀cs,v≠.agg cs:=fun cs e=>by subst e;cases h
  refine⟨by cases v<;>first|exact h|exact absurd rfl (hv _),fun s=>?_⟩
  show V.ofValue v=toV _ (qs0 v);rcases qes v with⟨cs,rfl⟩|e
  ·exact absurd rfl (hv cs)
  ·rw[e,qc7];unfold V.ofValue;split
   ·rename_i cs;exact absurd rfl (hv cs)
   ·rfl
 |global g=>exact⟨h,fun s=>by simp only[St.eval,ESt.eval,toV]⟩
 |func f=>cases h
theorem qv4{s:ESt}:∀ {l:List Operand},qjy l=true->l.map (qbc s).eval=(l.map s.eval).map (toV s.heap.len)
 |[],_=>rfl
 |x::l,h=>by
  obtain⟨h1,h2⟩:=qkg h;simp only[zhg,h2 s,qv4 h1]
theorem qcc{len:Len}{k:Nat}{v:LV}:(OD.lst v).slot len k []=.live (v.obj len k []):=by simp only[OD.slot,LV.qa6]
def q15(P:Program)[Tys P][TyE P](s:ESt)(t n:Nat)(A:Array (Nat×Operand))(K:OD->Option ρ):Option ρ:=match(Tys.c P t).sl with
 |some (e,sz,_)=>match TyE.c P e,(Tys.c P e).zero with
  |some N,some z=>bif Nat.beq N.sz sz&&Nat.beq z.cells.size sz&&Nat.blt 0 sz&&ql8 A.toList 0 n&&Nat.ble (n*sz) 16777216&&qjy (A.toList.map (·.2))then
    qki s (A.toList.map (·.2)) fun us=>match rowsOf N us with
     |some m=>K (.lst ⟨e,N,m⟩)
     |none=>none else none
  |_,_=>none
 |none=>none
theorem qrb{s:ESt}{v:LV}:toV (s.heap.add s.heap.next (.lst v)).len (.qa5 s.heap.next [])=.qbq ⟨s.heap.next,[]⟩ 0 0 v.l.length:=by
 have:(s.heap.add s.heap.next (.lst v)).at s.heap.next []=some v:=by
  simp only[qad.at,qad.add,zhc,cond_true,LV.qa6]
 simp only[toV,qad.qf1 this]
theorem q14[T:Tys P][TE:TyE P]{s:ESt}{t n:Nat}{A:Array (Nat×Operand)}{K:ESt->Option ρ}{res:ρ}(hK:∀s',K s'=some res->SLT P L Q s')
  (h:q15 P s t n A (qvd s d (fun id=>.qa5 id []) K)=some res):SLT P (⟨d,.buildSlice t n A,ty,none⟩::L) Q s:=by
 refine⟨SL.fair fun hf=>?_⟩;unfold q15 at h;split at h
 ·rename_i e sz by_ hsl;have ht:=(T.ok t).sl _ _ _ hsl;split at h
  ·rename_i N z hτ hz;have hzz:=(T.ok e).zero _ hz;have hh:=qaf h;clear h;obtain⟨hb,h⟩:=hh;simp only[zgz]at hb;obtain⟨⟨⟨⟨⟨b1,b2⟩,b3⟩,b4⟩,b5⟩,b6⟩:=hb;obtain rfl:=qbl b1;rw[qf3]at h;split at h
   ·rename_i m hm;obtain⟨r1,r2⟩:=qrh hm;obtain⟨hn,hA⟩:=qw4 b4;subst hn
    suffices h':SL P (⟨d,.buildSlice t (A.toList.map (·.2)).length (partsOf (A.toList.map (·.2))),ty,none⟩::L) (qe9 Q) (qbc s)by rw[<- hA]at h';exact h'
    have hev:=qv4 (s:=s) b6;rw[qfm]at h;simp only[zha]at r1;have hrow:∀i,i<(A.toList.map (·.2)).length->rowOf N (((A.toList.map (·.2)).map s.eval).getD i .un)=some (m.getD i N.z):=fun i hi=>r2 i (by simpa using hi);refine SL.q65 (P:=P) (t:=t) (by_:=by_) (e:=e) (z:=z) (qbl b2) hev (fun u hu=>?_) (zg4 b3) (zg4 b5)
     (SL.weak (qeg (a:={ elem:=e,sz:=N.sz,ver:=0,n:=(A.toList.map (·.2)).length,get:=fun i j=>((((A.toList.map (·.2)).map s.eval).map (toV s.heap.len)).getD i .un).row j }) (o:=.lst ⟨e,N,m⟩) (u:=.qa5 s.heap.next []) hf (TE.fro e N hτ) qcc rfl rfl rfl (show m.length=(A.toList.map (·.2)).length by rw[zha];exact r1) (fun i hi j hj=>?_) d (fun _=>?_)) (hK _ h).out)
    ·obtain⟨x,hx,rfl⟩:=zhk.1 hu;obtain⟨i,hi,rfl⟩:=zis hx;have hi':i<(A.toList.map (·.2)).length:=by simpa using hi
     have:=(qu1 (len:=s.heap.len) (hrow i hi')).1;rwa [zg0,zhb hi]at this
    ·have hi:i<(A.toList.map (·.2)).length:=hi;obtain⟨u',e1,e2⟩:=(qu1 (len:=s.heap.len) (hrow i hi)).2 j hj;show Wk _ (qbd _ _ _ i j (qam N (LV.row ⟨e,N,m⟩ i) j));have e3:qam N (LV.row ⟨e,N,m⟩ i) j=.ev u':=e1;rw[e3];have e4:toV s.heap.len (((A.toList.map (·.2)).map s.eval).getD i .un)=((((A.toList.map (·.2)).map s.eval).map (toV s.heap.len)).getD i .un):=by
      simp only[zg0,zh5];cases A.toList[i]?<;>simp[toV]
     rw[e4]at e2;exact e2 _
    ·have e5:m.length=(A.toList.map (·.2)).length:=by simpa using r1
     rw[qrb];show Wk _ (V.qbq _ 0 0 m.length);rw[e5];exact Wk.refl _
   ·cases h
  ·cases h
 ·cases h
def q8g(P:Program)[Tys P][TyE P](s:ESt)(t:Nat)(x y:Operand)(K:OD->Option ρ):Option ρ:=match(Tys.c P t).sl with
 |some (e,sz,by_)=>match TyE.c P e,(Tys.c P e).zero with
  | some N,some z=>bif Nat.beq N.sz sz&&Nat.beq z.cells.size sz&&Nat.blt 0 sz then(match s.eval x,s.eval y with
   |.i _ m,.i _ m'=>grd (okB (m'=m/\0<=m/\m*(by_:Int)<=140737488355328/\m<=281474976710656)) (K (.lst ⟨e,N,List.replicate m.toNat N.z⟩))
   | _,_=>none)else none
  |_,_=>none
 |none=>none
theorem q4m[T:Tys P][TE:TyE P]{s:ESt}{t:Nat}{x y:Operand}{K:ESt->Option ρ}{res:ρ}(hK:∀s',K s'=some res->SLT P L Q s')
  (h:q8g P s t x y (qvd s d (fun id=>.qa5 id []) K)=some res):SLT P (⟨d,.makeSlice t x y,ty,none⟩::L) Q s:=by
 refine⟨SL.fair fun hf=>?_⟩;unfold q8g at h;split at h
 ·rename_i e sz by_ hsl;have ht:=(T.ok t).sl _ _ _ hsl;split at h
  ·rename_i N z hτ hz;have hzz:=(T.ok e).zero _ hz;have hh:=qaf h;clear h;obtain⟨hb,h⟩:=hh;simp only[zgz]at hb;obtain⟨⟨b1,b2⟩,b3⟩:=hb;obtain rfl:=qbl b1;split at h
   ·rename_i m _ m' hx hy;have hx:=eval_eq hx rfl;have hy:=eval_eq hy rfl;simp only[toV]at hx hy;obtain⟨hp,h⟩:=qbs h;obtain⟨rfl,p1,p2,p3⟩:=qc5 hp;obtain⟨n,hn⟩:=Int.eq_ofNat_of_zero_le p1;subst hn;rw[qfm]at h;simp only[zhe]at h;obtain⟨z1,z2⟩:=TE.zero e N z hτ hz;refine SL.zex (P:=P) (t:=t) (by_:=by_) (e:=e) (z:=z) (qbl b2) hx hy rfl (zg4 b3) (Int.ofNat_le.1 (by rw[Int.natCast_mul];exact p2)) (show n<=281474976710656 by omega)
     (SL.weak (qeg (a:={ elem:=e,sz:=N.sz,ver:=0,n:=n,get:=fun _ j=>V.cell (z.cells.getD j undef) }) (o:=.lst ⟨e,N,List.replicate n N.z⟩) (u:=.qa5 s.heap.next []) hf (TE.fro e N hτ) qcc rfl rfl rfl (by simp[LV.obj]) (fun i hi j hj=>?_) d (fun _=>?_)) (hK _ h).out)
    ·have hi:i<n:=hi;have e1:LV.row ⟨e,N,List.replicate n N.z⟩ i=N.z:=by simp[LV.row,zg0,hi]
     obtain⟨u,e2,e3⟩:=z2 j hj;show Wk _ (qbd _ _ _ i j (qam N (LV.row ⟨e,N,List.replicate n N.z⟩ i) j));rw[e1,e2];exact e3 _
    ·rw[qrb];simp only[zia];exact Wk.refl _
   ·cases h
  ·cases h
 ·cases h
mutual
def qa9(f:Nat->List Nat->Option EV):EV->EV
 |.ptr k p r c=>match f k p with
  |none=>.ptr k p r c
  |some _=>.un
 |.qbq k p r n=>match f k p with
  |none=>.qbq k p r n
  |some _=>.un
 |.qa5 k p=>match f k p with
  |none=>.qa5 k p
  |some u=>u
 |.qcd k=>match f k []with
  |none=>.qcd k
  |some _=>.un
 |.agg l=>.agg (qbz f l)
 |.tup l=>.tup (qbz f l)
 |.fn g l=>.fn g (qbz f l)
 |.un=>.un
 |.und=>.und
 |.b x=>.b x
 |.i k n=>.i k n
 |.s x=>.s x
 |.fz N l=>.fz N l
 |.fp N x c=>.fp N x c
 |.st i x=>.st i x
 |.qby=>.qby
 |.qej=>.qej
 |.qek=>.qek
 |.qel=>.qel
 |.qji=>.qji
def qbz(f:Nat->List Nat->Option EV):List EV->List EV
 |[]=>[]
 |a::l=>qa9 f a::qbz f l
end
theorem qcf(f:Nat->List Nat->Option EV):∀l:List EV,(qbz f l).length=l.length
 |[]=>rfl
 |a::l=>by simp[qbz,qcf f l]
structure qbm(f:Nat->List Nat->Option EV)(H:qad)(H1:qbe)(H':qad)(m:Id->Option Id)(Z:Id->Prop):Prop where
 rep:∀id p u,f id p=some u->KG H1 (toH H') m Z (toV H.len (.qa5 id p)) (toV H'.len u)
 slot:∀id p,f id p=none->(toH H).slot ⟨id,p⟩≠.qae->(toH H').slot ⟨id,p⟩=.dead\/(qaz (H1.slot ⟨id,p⟩) ((toH H').slot ⟨id,p⟩)/\m ⟨id,p⟩=some ⟨id,p⟩)
 len:∀id p,f id p=none->(toH H).slot ⟨id,p⟩≠.qae->H'.len id p=H.len id p
theorem qbm.qbq{f:Nat->List Nat->Option EV}{H:qad}{H1:qbe}{H':qad}{m:Id->Option Id}{Z:Id->Prop}(k:qbm f H H1 H' m Z){id:Nat}{p:List Nat}{r n:Nat}(hf:f id p=none)(hb:(toH H).slot ⟨id,p⟩≠.qae) :
  KG H1 (toH H') m Z (.qbq ⟨id,p⟩ 0 r n) (.qbq ⟨id,p⟩ 0 r n):=by
 rintro E M F w v rr ⟨h0,h1⟩
 refine⟨h0,?_⟩;rcases k.slot id p hf hb with hd|⟨hl,hm⟩
 ·rw[hd];trivial
 ·cases hs':(toH H').slot ⟨id,p⟩with
  |dead=>trivial
  |mp s g=>trivial
  |qae=>rw[hs']at hl;cases hs:H1.slot ⟨id,p⟩<;>rw[hs]at hl<;>exact hl.elim
  |live o'=>
   rw[hs']at hl;cases hs:H1.slot ⟨id,p⟩with
   |live o=>
    rw[hs]at hl h1;obtain⟨a,b,c,d⟩:=hl;show 0<=o'.ver/\_;rw[qca hm,a,b,c,d];exact h1
   |qae=>rw[hs]at hl;exact hl.elim
   |dead=>rw[hs]at hl;exact hl.elim
   |mp _ _=>rw[hs]at hl;exact hl.elim
theorem qbm.ptr{f:Nat->List Nat->Option EV}{H:qad}{H1:qbe}{H':qad}{m:Id->Option Id}{Z:Id->Prop}(k:qbm f H H1 H' m Z){id:Nat}{p:List Nat}{r n:Nat}(hf:f id p=none)(hb:(toH H).slot ⟨id,p⟩≠.qae) :
  KG H1 (toH H') m Z (.ptr ⟨id,p⟩ 0 r n) (.ptr ⟨id,p⟩ 0 r n):=by
 rintro E M F w v rr ⟨h0,h1⟩
 refine⟨h0,?_⟩;rcases k.slot id p hf hb with hd|⟨hl,hm⟩
 ·rw[hd];trivial
 ·cases hs':(toH H').slot ⟨id,p⟩with
  |dead=>trivial
  |mp s g=>trivial
  |qae=>rw[hs']at hl;cases hs:H1.slot ⟨id,p⟩<;>rw[hs]at hl<;>exact hl.elim
  |live o'=>
   rw[hs']at hl;cases hs:H1.slot ⟨id,p⟩with
   |live o=>
    rw[hs]at hl h1;obtain⟨a,b,c,d⟩:=hl;show 0<=o'.ver/\_;rw[qca hm,a,c];exact h1
   |qae=>rw[hs]at hl;exact hl.elim
   |dead=>rw[hs]at hl;exact hl.elim
   |mp _ _=>rw[hs]at hl;exact hl.elim
theorem qbm.qcd{f:Nat->List Nat->Option EV}{H:qad}{H1:qbe}{H':qad}{m:Id->Option Id}{Z:Id->Prop}(k:qbm f H H1 H' m Z){id:Nat}(hf:f id []=none)(hb:(toH H).slot ⟨id,[]⟩≠.qae) :
  KG H1 (toH H') m Z (.qcd ⟨id,[]⟩) (.qcd ⟨id,[]⟩):=by
 rintro E M F w v rr ⟨h0,h1⟩
 refine⟨h0,?_⟩;rcases k.slot id [] hf hb with hd|⟨hl,hm⟩
 ·rw[hd];trivial
 ·cases hs':(toH H').slot ⟨id,[]⟩with
  |dead=>trivial
  |live o'=>trivial
  |qae=>rw[hs']at hl;cases hs:H1.slot ⟨id,[]⟩<;>rw[hs]at hl<;>exact hl.elim
  |mp s g=>
   rw[hs']at hl;cases hs:H1.slot ⟨id,[]⟩with
   |mp _ _=>rw[hs]at h1;rw[qca hm];exact h1
   |qae=>rw[hs]at hl;exact hl.elim
   |dead=>rw[hs]at hl;exact hl.elim
   |live _=>rw[hs]at hl;exact hl.elim
mutual
theorem qbm.keeps{f:Nat->List Nat->Option EV}{H:qad}{H1:qbe}{H':qad}{m:Id->Option Id}{Z:Id->Prop}(k:qbm f H H1 H' m Z):∀u:EV,qfq (toH H) (toV H.len u)->KG H1 (toH H') m Z (toV H.len u) (toV H'.len (qa9 f u))
 |.ptr id p r c,hb=>by
  simp only[qa9];cases hf:f id p with
  |some u=>simp only[toV];exact KG.un
  |none=>simp only[toV]at hb ⊢;exact k.ptr hf hb
 |.qbq id p r n,hb=>by
  simp only[qa9];cases hf:f id p with
  |some u=>simp only[toV];exact KG.un
  |none=>simp only[toV]at hb ⊢;exact k.qbq hf hb
 |.qa5 id p,hb=>by
  simp only[qa9];cases hf:f id p with
  |some u=>exact k.rep id p u hf
  |none=>
   simp only[toV]at hb ⊢;have hb':(toH H).slot ⟨id,p⟩≠.qae:=by cases hx:H.len id p<;>rw[hx]at hb<;>exact hb
   rw[k.len id p hf hb'];cases H.len id p<;>exact k.qbq hf hb'
 |.qcd id,hb=>by
  simp only[qa9];cases hf:f id []with
  |some u=>simp only[toV];exact KG.un
  |none=>simp only[toV]at hb ⊢;exact k.qcd hf hb
 |.agg l,hb=>by simp only[qa9,toV,qcf]at hb ⊢;exact KG.agg fun j hj=>qbm.qop k l j (hb j hj)
 |.tup l,hb=>by simp only[qa9,toV,qcf]at hb ⊢;exact KG.tup fun j hj=>qbm.qop k l j (hb j hj)
 |.fn g l,hb=>by simp only[qa9,toV,qcf]at hb ⊢;exact KG.fn fun j hj=>qbm.qop k l j (hb j hj)
 |.un,_=>by simp only[qa9,toV];exact KG.un
 |.und,_=>by simp only[qa9,toV];exact KG.und
 |.b _,_=>by simp only[qa9,toV];exact KG.t _
 |.i _ _,_=>by simp only[qa9,toV];exact KG.t _
 |.s _,_=>by simp only[qa9,toV];exact KG.t _
 |.fz _ _,_=>by simp only[qa9,toV];exact KG.t _
 |.fp _ _ _,_=>by simp only[qa9,toV];exact KG.fp
 |.st _ _,_=>by simp only[qa9,toV];exact KG.agg fun j _=>KG.t _
 |.qby,_=>by simp only[qa9,toV];exact KG.qby
 |.qej,_=>by simp only[qa9,toV];exact KG.qej
 |.qek,_=>by simp only[qa9,toV];exact KG.qek
 |.qel,_=>by simp only[qa9,toV];exact KG.qel
 |.qji,_=>by simp only[qa9,toV];exact KG.t _
theorem qbm.qop{f:Nat->List Nat->Option EV}{H:qad}{H1:qbe}{H':qad}{m:Id->Option Id}{Z:Id->Prop}(k:qbm f H H1 H' m Z):∀(l:List EV) (j:Nat),qfq (toH H) (qa3 H.len l j)->KG H1 (toH H') m Z (qa3 H.len l j) (qa3 H'.len (qbz f l) j)
 |[],j,_=>by simp only[qbz,qa3];exact KG.un
 |a::l,0,hb=>by simp only[qbz,qa3]at hb ⊢;exact qbm.keeps k a hb
 |a::l,j+1,hb=>by simp only[qbz,qa3]at hb ⊢;exact qbm.qop k l j hb
end
end
end
end Go.Abs
namespace Go.Abs
open Go
noncomputable section
variable {P:Program} {d:Option Tmp} {ty:TypeId} {L:List GOp} {ρ:Type}
section
variable [SU] [qa2] {Q:Exit->ESt->Prop}
def qbw(f:Nat->List Nat->Option EV):OD->OD
 |.cells e l=>.cells e (qbz f l)
 |.lst v=>.lst v
 |.mp s N g=>.mp s N g
 |.hole v q r c u=>.hole v q r c (qa9 f u)
 |.dead=>.dead
 |.none=>.none
theorem qad.q5j{H H':qad}{f:Nat->List Nat->Option EV}{j:Nat}(h:H'.obj j=qbw f (H.obj j))(p:List Nat):H'.at j p=H.at j p:=by
 unfold qad.at;rw[h];cases H.obj j<;>rfl
theorem qad.qdn{H H':qad}{f:Nat->List Nat->Option EV}{j:Nat}(h:H'.obj j=qbw f (H.obj j))(p:List Nat):H'.len j p=H.len j p:=by
 unfold qad.len;rw[h]
 cases H.obj j<;>first|rfl|(cases p<;>rfl)
theorem qcs{len:Len}{k:Nat}{v a:LV}{p:List Nat}(h:v.at p=some a){r c:Nat}{t:TypeId}{e:Ty}{l:List e.D}(hc:qam a.N (a.row r) c=.own t e l):(OD.lst v).slot len k (p++[c,r])=.live (LV.obj len k (p++[c,r]) ⟨t,e,l⟩):=by
 simp only[OD.slot];rw[LV.qbv _ _ _ _ h,LV.at_one,LV.qd8 hc]
theorem KG.dat{H1 H2:qbe}{m:Id->Option Id}{Z:Id->Prop}{len len':Len}{u:EV}(h:u.dat=true):KG H1 H2 m Z (toV len u) (toV len' u):=by
 cases u<;>simp only[toV]<;>first|(cases h;done)|exact KG.un|exact KG.t _|exact KG.qby|exact KG.qej|exact KG.qek|exact KG.qel
theorem qwy{f:Nat->List Nat->Option EV}{H:qad}{H1:qbe}{H':qad}{m:Id->Option Id}{Z:Id->Prop}(k:qbm f H H1 H' m Z){j:Nat}(hj:H'.obj j=qbw f (H.obj j))(hfj:∀p,f j p=none)
  (hb:∀i o,(toH H).slot i=.live o->∀r,r<o.n->∀c,c<o.sz->qfq (toH H) (o.get r c)) {p:List Nat} {a':qcu} (h:(toH H').slot ⟨j,p⟩=.live a') :
  ∃a,(toH H).slot ⟨j,p⟩=.live a/\a'.elem=a.elem/\a'.sz=a.sz/\a'.n=a.n/\a'.ver=a.ver/\∀r,r<a'.n->∀c,c<a'.sz->KG H1 (toH H') m Z (a.get r c) (a'.get r c):=by
 have h0:(H'.obj j).slot H'.len j p=.live a':=h;have hs:(toH H).slot ⟨j,p⟩=(H.obj j).slot H.len j p:=rfl;rw[hj]at h0;have cellK:∀(p:List Nat) (r c:Nat) (x:Cell),(∀u,x=.ev u->u.dat=true)->qfq (toH H) (qbd H.len j p r c x)->KG H1 (toH H') m Z (qbd H.len j p r c x) (qbd H'.len j p r c x):=fun p r c x hd hx=>by
  cases x with
  |ev u=>exact KG.dat (hd u rfl)
  |own t e l=>simp only[qbd]at hx ⊢;exact k.qbq (hfj _) hx
 cases ho:H.obj j with
 |none=>rw[ho]at h0;cases h0
 |dead=>rw[ho]at h0;cases h0
 |lst v=>
  rw[ho]at h0;simp only[qbw,OD.slot]at h0;cases hv:v.at p with
  |none=>rw[hv]at h0;cases h0
  |some a=>
   rw[hv]at h0;injection h0 with h0;subst h0;have hl:(toH H).slot ⟨j,p⟩=.live (a.obj H.len j p):=by rw[hs,ho];simp only[OD.slot,hv]
   exact⟨_,hl,rfl,rfl,rfl,rfl,fun r hr c hc=>cellK p r c _ (qbf _ _ _) (hb _ _ hl r hr c hc)⟩
 |cells e l=>
  rw[ho]at h0;cases p with
  |cons x y=>cases h0
  |nil=>
   injection h0 with h0;subst h0;have hl:(toH H).slot ⟨j,[]⟩=.live { elem:=e,sz:=l.length,ver:=0,n:=1,get:=fun _ c=>qa3 H.len l c }:=qc9 ho;refine⟨_,hl,rfl,by simp only[qcf],rfl,rfl,fun r hr c hc=>?_⟩;simp only[qcf]at hc;exact qbm.qop k l c (hb _ _ hl r hr c hc)
 |hole v q r c u=>
  rw[ho]at h0;simp only[qbw,OD.slot]at h0;split at h0
  ·cases h0
  ·rename_i hn;cases hv:v.at p with
   |none=>rw[hv]at h0;cases h0
   |some a=>
    rw[hv]at h0;injection h0 with h0;subst h0;have hl:(toH H).slot ⟨j,p⟩=.live (a.qj0 H.len j p q r c u):=by rw[hs,ho];simp only[OD.slot,hv,if_neg hn]
    refine⟨_,hl,rfl,rfl,rfl,rfl,fun r' hr c' hc=>?_⟩;have hbb:=hb _ _ hl r' hr c' hc;simp only[LV.qj0]at hbb ⊢;split
    ·rename_i hx;rw[if_pos hx]at hbb;exact qbm.keeps k u hbb
    ·rename_i hne;rw[if_neg hne]at hbb;exact cellK p r' c' _ (qbf _ _ _) hbb
 |mp s N g=>
  rw[ho]at h0;cases p<;>cases h0
theorem qb7{f:Nat->List Nat->Option EV}{len len':Len}{k:Nat}{o:OD}{p:List Nat}(h:o.slot len k p≠.qae):qaz (o.slot len k p) ((qbw f o).slot len' k p):=by
 cases o with
 |none=>exact absurd rfl h
 |dead=>trivial
 |lst v=>
  simp only[qbw,OD.slot]at h ⊢;cases hv:v.at p with
  |none=>rw[hv]at h;exact absurd rfl h
  |some a=>exact⟨rfl,rfl,rfl,rfl⟩
 |cells e l=>
  cases p with
  |cons x y=>exact absurd rfl h
  |nil=>exact⟨rfl,rfl,by simp only[qcf],rfl⟩
 |hole v q r c u=>
  simp only[qbw,OD.slot]at h ⊢;by_cases hn:q++[c,r] <+: p
  ·simp only[if_pos hn];trivial
  ·simp only[if_neg hn]at h ⊢;cases hv:v.at p with
   |none=>rw[hv]at h;exact absurd rfl h
   |some a=>exact⟨rfl,rfl,rfl,rfl⟩
 |mp s N g=>
  cases p with
  |cons x y=>exact absurd rfl h
  |nil=>trivial
theorem qcm{f:Nat->List Nat->Option EV}{len len':Len}{k:Nat}{o:OD}{p:List Nat}:(qbw f o).slot len' k p=.qae↔o.slot len k p=.qae:=by
 cases o with
 |none=>exact Iff.rfl
 |dead=>exact Iff.rfl
 |lst v=>simp only[qbw,OD.slot];cases v.at p<;>simp
 |cells e l=>cases p<;>simp[qbw,OD.slot]
 |hole v q r c u=>simp only[qbw,OD.slot];split<;>first|simp|(cases v.at p<;>simp)
 |mp s N g=>cases p<;>simp[qbw,OD.slot]
theorem qux{f:Nat->List Nat->Option EV}{len len':Len}{k:Nat}{o:OD}{p:List Nat}{s:Bool}{g:qce->Option V}(h:(qbw f o).slot len' k p=.mp s g):o.slot len k p=.mp s g/\∀x,g x=none\/∃y,g x=some (.t y):=by
 obtain⟨N,g',h1,rfl,rfl⟩:=qlr h
 cases o<;>first
  |(cases h1;done)
  |(injection h1 with a b c;subst a;subst b;obtain rfl:=eq_of_heq c;exact⟨rfl,fun x=>by dsimp only;split<;>simp⟩)
theorem Gen.qa9{H:qad}{H1:qbe}{H':qad}{m:Id->Option Id}{Z:Id->Prop}{f:Nat->List Nat->Option EV}(S:Nat->Prop)(k:qbm f H H1 H' m Z)
  (hb:∀i o,(toH H).slot i=.live o->∀r,r<o.n->∀c,c<o.sz->qfq (toH H) (o.get r c))
  (hns:∀j,¬ S j->(∀p,f j p=none)/\H'.obj j=qbw f (H.obj j)/\(∀p,m ⟨j,p⟩=some ⟨j,p⟩)/\(∀p,¬ Z ⟨j,p⟩)/\∀p,H1.slot ⟨j,p⟩=(toH H).slot ⟨j,p⟩)
  (hS:∀i:Id,S i.k->∀o',(toH H').slot i=.live o'->(m i=none/\o'.n=0)\/∃x o,m i=some x/\H1.slot x=.live o/\¬ Z x/\o'.elem=o.elem/\o'.sz=o.sz/\o'.n<=o.n/\∀r,r<o'.n->∀c,c<o'.sz->KG H1 (toH H') m Z (o.get r c) (o'.get r c))
  (hSm:∀i:Id,S i.k->∀s g',(toH H').slot i=.mp s g'->∃x g,m i=some x/\H1.slot x=.mp s g/\¬ Z x/\∀k,(g k=none/\g' k=none)\/∃u u',g k=some u/\g' k=some u'/\KG H1 (toH H') m Z u u')
  (hinj:∀i j x,S i.k->((toH H').slot i).is->((toH H').slot j).is->m i=some x->m j=some x->i=j)
  (hlo:H'.lo=H1.lo) (hnx:Nx (toH H')) (hlow:∀i:Id,S i.k->i.k<H1.lo->i.p=[]->H1.slot i=.qae\/(toH H').slot i=.dead\/(m i=some i/\qaz (H1.slot i) ((toH H').slot i))):Gen H1 (toH H') m Z where
 lo:=hlo
 next:=hnx
 obj i o' h:=by
  by_cases hi:S i.k
  ·exact hS i hi o' h
  ·obtain⟨h1,h2,h3,h4,h5⟩:=hns i.k hi;obtain⟨a,q1,q2,q3,q4,q5,q6⟩:=qwy k (j:=i.k) (p:=i.p) h2 h1 hb h;exact .inr ⟨i,a,h3 i.p,(h5 i.p).trans q1,h4 i.p,q2,q3,zij q4,q6⟩
 mp i s g' h:=by
  by_cases hi:S i.k
  ·exact hSm i hi s g' h
  ·obtain⟨h1,h2,h3,h4,h5⟩:=hns i.k hi;have h':(qbw f (H.obj i.k)).slot H'.len i.k i.p=.mp s g':=by rw[<- h2];exact h
   obtain⟨q1,q2⟩:=qux (len:=H.len) h';refine⟨i,g',h3 i.p,(h5 i.p).trans q1,h4 i.p,fun x=>?_⟩;rcases q2 x with e|⟨y,e⟩
   ·exact .inl ⟨e,e⟩
   ·exact .inr ⟨_,_,e,e,KG.t _⟩
 inj i j x hi hj h1 h2:=by
  by_cases h:S i.k
  ·exact hinj i j x h hi hj h1 h2
  ·by_cases h':S j.k
   ·exact(hinj j i x h' hj hi h2 h1).symm
   ·have e1:=(hns i.k h).2.2.1 i.p;have e2:=(hns j.k h').2.2.1 j.p;have e1:m i=some i:=e1;have e2:m j=some j:=e2;rw[e1]at h1;rw[e2]at h2;injection h1 with h1;injection h2 with h2;rw[h1,h2]
 low i hi hp:=by
  by_cases h:S i.k
  ·exact hlow i h hi hp
  ·obtain⟨h1,h2,h3,h4,h5⟩:=hns i.k h;by_cases hu:H1.slot i=.qae
   ·exact .inl hu
   ·refine .inr (.inr ⟨h3 i.p,?_⟩);have e:(toH H').slot i=(qbw f (H.obj i.k)).slot H'.len i.k i.p:=by rw[<- h2];rfl
    rw[e,show H1.slot i=(toH H).slot i from h5 i.p];rw[show H1.slot i=(toH H).slot i from h5 i.p]at hu;exact qb7 hu
def qad.app(H:qad)(f:Nat->List Nat->Option EV)(k k2 nx:Nat)(v:LV):qad:=
 { next:=nx,lo:=H.lo,md:=H.md,obj:=fun j=>bif Nat.beq j k2 then .lst v else bif Nat.beq j k then .dead else qbw f (H.obj j) }
def ESt.app(s:ESt)(f:Nat->List Nat->Option EV)(k k2 nx:Nat)(v:LV):ESt:={ s with env:=fun t=>qa9 f (s.env t),heap:=s.heap.app f k k2 nx v }
theorem q9t{H:qad}{f:Nat->List Nat->Option EV}{k k2 nx:Nat}{v:LV}(p:List Nat):(H.app f k k2 nx v).at k2 p=v.at p:=by
 simp only[qad.at,qad.app,zhc,cond_true]
theorem qnl{H:qad}{f:Nat->List Nat->Option EV}{k k2 nx:Nat}{v:LV}{j:Nat}(h:j≠k)(h2:j≠k2):(H.app f k k2 nx v).obj j=qbw f (H.obj j):=by
 simp only[qad.app,qav h,qav h2,cond_false]
theorem q5m{H:qad}{f:Nat->List Nat->Option EV}{k k2 nx:Nat}{v:LV}(h2:k≠k2):(H.app f k k2 nx v).obj k=.dead:=by
 simp only[qad.app,qav h2,cond_false,zhc,cond_true]
theorem qum{s:ESt}{H1:qbe}{f:Nat->List Nat->Option EV}{k k2 nx:Nat}{v:LV}{a1:qcu}{u0:V}(hf:Fair s)(hflat:qj2 v.N=true)
  (h1:∀i,H1.slot i=if i=⟨k,[]⟩then .live a1 else(toH s.heap).slot i) (hlo:H1.lo=s.heap.lo)
  (ha1:v.e=a1.elem) (ha2:v.N.sz=a1.sz) (ha3:v.l.length=a1.n) (hget:∀r,r<a1.n->∀c,c<a1.sz->Wk (a1.get r c) (.t (qj6 v.N (v.row r) c)))
  (hold:∀p,p≠[]->(toH s.heap).slot ⟨k,p⟩=.qae) (hk2:k2=k\/∀p,(toH s.heap).slot ⟨k2,p⟩=.qae) (hnx:s.heap.next<=nx) (hnk:k<nx) (hnk2:k2<nx) (hlk:s.heap.lo<=k2)
  (hfo:∀id p,f id p=none->(toH s.heap).slot ⟨id,p⟩≠.qae->id≠k) (hfn:∀id p,id≠k->f id p=none) (hfu:∀id p u,f id p=some u->u=.un)
  (d:Option Tmp) (hu:d≠none->Wk u0 (.qbq ⟨k,[]⟩ a1.ver 0 a1.n)) :
  qgs (((qbc s).on H1).put d u0) (qbc ((s.app f k k2 nx v).put d (.qa5 k2 []))):=by
 let m:Id->Option Id:=fun i=>if i.k=k2 then(if i.p=[]then some ⟨k,[]⟩else none)else if i.k=k then none else some i
 let H':=s.heap.app f k k2 nx v
 have hne:∀id p,f id p=none->(toH s.heap).slot ⟨id,p⟩≠.qae->id≠k/\id≠k2:=fun id p h hb=>by
  have h1:=hfo id p h hb;refine⟨h1,fun e=>?_⟩;rcases hk2 with e2|e2
  ·exact h1 (e.trans e2)
  ·exact hb (by rw[e];exact e2 p)
 have hat:∀id p,id≠k->id≠k2->H'.at id p=s.heap.at id p:=fun id p e1 e2=>qad.q5j (qnl e1 e2) p;have hk:qbm f s.heap H1 H' m (fun _=>False):=⟨fun id p u h=>by rw[hfu id p u h];simp only[toV];exact KG.un,
  fun id p h hb=>by
   obtain⟨e1,e2⟩:=hne id p h hb;refine .inr ⟨?_,by simp only[m,if_neg e1,if_neg e2]⟩;rw[h1,if_neg (fun e=>e1 (by injection e))];show qaz _ ((H'.obj id).slot H'.len id p);rw[qnl e1 e2];exact qb7 hb,
  fun id p h hb=>by
   obtain⟨e1,e2⟩:=hne id p h hb;exact qad.qdn (qnl e1 e2) p⟩
 have hslot2:∀p,(toH H').slot ⟨k2,p⟩=(OD.lst v).slot H'.len k2 p:=fun p=>by
  show(H'.obj k2).slot _ _ _=_;simp only[H',qad.app,zhc,cond_true]
 have hslotk:k≠k2->∀p,(toH H').slot ⟨k,p⟩=.dead:=fun e p=>by
  show(H'.obj k).slot _ _ _=_;rw[q5m e];rfl
 have gen:Gen H1 (toH H') m (fun _=>False):=by
  refine Gen.qa9 (fun j=>j=k\/j=k2) hk hf.obj (fun j hj=>?_) (fun i hi o' ho=>?_) (fun i hi sb g' hm=>?_) (fun i j x hi h1' h2' e1 e2=>?_) (by rw[hlo];rfl) (fun i hi=>?_) (fun i hi hil hip=>?_)
  ·have e1:j≠k:=fun e=>hj (.inl e);have e2:j≠k2:=fun e=>hj (.inr e);exact⟨fun p=>hfn j p e1,qnl e1 e2,fun p=>by simp only[m,if_neg e1,if_neg e2],fun p h=>h,fun p=>by rw[h1,if_neg (fun e=>e1 (by injection e))]⟩
  ·obtain⟨j,p⟩:=i;have hj:j=k2:=by
    rcases hi with e|e
    ·by_cases e2:k=k2
     ·exact e.trans e2
     ·simp only at e;subst e;rw[hslotk e2]at ho;cases ho
    ·exact e
   subst hj;rw[hslot2]at ho;by_cases hp:p=[]
   ·subst hp;rw[qcc]at ho;injection ho with ho;subst ho;refine .inr ⟨⟨k,[]⟩,a1,by simp only[m,if_true],by rw[h1,if_pos rfl],fun h=>h,ha1,ha2,zij ha3,fun r hr c hc=>?_⟩;have hr:r<v.l.length:=hr;have hc:c<v.N.sz:=hc;obtain⟨u,e1,e2⟩:=qdt v.N (v.row r) c hflat;show KG _ _ _ _ _ (qbd H'.len j [] r c (qam v.N (v.row r) c));rw[e1];simp only[qbd];rw[e2 hc];exact KG.qhy (hget r (by omega) c (by omega)) (KG.t _)
   ·simp only[OD.slot,LV.qud hflat p hp]at ho;cases ho
  ·obtain⟨j,p⟩:=i;exfalso;have hj:j=k2:=by
    rcases hi with e|e
    ·by_cases e2:k=k2
     ·exact e.trans e2
     ·simp only at e;subst e;rw[hslotk e2]at hm;cases hm
    ·exact e
   subst hj;rw[hslot2]at hm;simp only[OD.slot]at hm;cases hv:v.at p<;>rw[hv]at hm<;>cases hm
  ·obtain⟨j1,p1⟩:=i;obtain⟨j2,p2⟩:=j;simp only[m]at e1 e2;have key:∀(j2:Nat) (p2:List Nat),((toH H').slot ⟨j2,p2⟩).is->(if j2=k2 then(if p2=[]then some (⟨k,[]⟩:Id)else none)else if j2=k then none else some ⟨j2,p2⟩)=some ⟨k,[]⟩->j2=k2/\p2=[]:=fun j2 p2 hl e=>by
    by_cases h2:j2=k2
    ·rw[if_pos h2]at e;by_cases hp:p2=[]
     ·exact⟨h2,hp⟩
     ·rw[if_neg hp]at e;cases e
    ·rw[if_neg h2]at e;by_cases h3:j2=k
     ·rw[if_pos h3]at e;cases e
     ·rw[if_neg h3]at e;injection e with e;injection e with e _;exact absurd e h3
   have hx:x=⟨k,[]⟩/\j1=k2/\p1=[]:=by
    by_cases h2:j1=k2
    ·rw[if_pos h2]at e1;by_cases hp:p1=[]
     ·rw[if_pos hp]at e1;injection e1 with e1;exact⟨e1.symm,h2,hp⟩
     ·rw[if_neg hp]at e1;cases e1
    ·rcases hi with e|e
     ·simp only at e;rw[if_neg h2,if_pos e]at e1;cases e1
     ·exact absurd e h2
   obtain⟨rfl,rfl,rfl⟩:=hx;obtain⟨rfl,rfl⟩:=key j2 p2 h2' e2;rfl
  ·have hi:nx<=i.k:=hi;have e1:i.k≠k:=by omega
   have e2:i.k≠k2:=by omega
   show(H'.obj i.k).slot _ _ _=_;rw[qnl e1 e2];exact qcm.2 (hf.next i (by omega))
  ·obtain⟨j,p⟩:=i;simp only at hip hil;subst hip;rw[hlo]at hil;have e2:j≠k2:=fun e=>by omega
   rcases hi with e|e
   ·simp only at e;subst e;exact .inr (.inl (hslotk e2 []))
   ·exact absurd e e2
 refine qgs.gen m (fun _=>False) (by rw[qaw,qg2,qg2];rfl) (by rw[qcr,qaw,qcr];exact gen) (fun t=>?_)
 have hh1:(((qbc s).on H1).put d u0).heap=H1:=by rw[qcr];rfl
 have hh2:(qbc ((s.app f k k2 nx v).put d (.qa5 k2 []))).heap=toH H':=by rw[qaw,qcr];rfl
 rw[hh1,hh2,qaw];have hlast:toV H'.len (.qa5 k2 [])=.qbq ⟨k2,[]⟩ 0 0 v.l.length:=by
  simp only[toV];rw[qad.qf1 (show H'.at k2 []=some v by rw[show H'=s.heap.app f k k2 nx v from rfl,q9t,LV.qa6])]
 show KG H1 (toH H') m _ ((((qbc s).on H1).put d u0).env t) (((qbc (s.app f k k2 nx v)).put d (toV H'.len (.qa5 k2 []))).env t);have base:KG H1 (toH H') m (fun _=>False) (toV s.heap.len (s.env t)) (toV H'.len (qa9 f (s.env t))):=qbm.keeps hk _ (hf.env t);cases d with
 |none=>exact base
 |some d=>
  simp only[St.put];cases Nat.beq t d with
  |false=>exact base
  |true=>
   show KG _ _ _ _ (bif Nat.blt d s.nt then u0 else .un) (bif Nat.blt d s.nt then toV H'.len (.qa5 k2 [])else .un);cases Nat.blt d s.nt with
   |false=>exact KG.un
   |true=>
    simp only[cond_true];rw[hlast];refine KG.qhy (hu (fun e=>by cases e)) ?_;rw[<- ha3];have h2:(toH H').slot ⟨k2,[]⟩=.live (v.obj H'.len k2 []):=by rw[hslot2,qcc]
    exact KG.qbq (i:=⟨k,[]⟩) (j:=⟨k2,[]⟩) (by rw[h1,if_pos rfl]) h2 (by simp only[m,if_true]) rfl rfl ha2 ha1 (zij (zg9 _))
mutual
theorem qh4:∀u:EV,qa9 (fun _ _=>none) u=u
 |.ptr _ _ _ _=>rfl
 |.qbq _ _ _ _=>rfl
 |.qa5 _ _=>rfl
 |.qcd _=>rfl
 |.agg l=>by simp only[qa9,qd6 l]
 |.tup l=>by simp only[qa9,qd6 l]
 |.fn g l=>by simp only[qa9,qd6 l]
 |.un=>rfl
 |.und=>rfl
 |.b _=>rfl
 |.i _ _=>rfl
 |.s _=>rfl
 |.fz _ _=>rfl
 |.fp _ _ _=>rfl
 |.st _ _=>rfl
 |.qby=>rfl
 |.qej=>rfl
 |.qek=>rfl
 |.qel=>rfl
 |.qji=>rfl
theorem qd6:∀l:List EV,qbz (fun _ _=>none) l=l
 |[]=>rfl
 |a::l=>by simp only[qbz,qh4 a,qd6 l]
end
theorem qre(o:OD):qbw (fun _ _=>none) o=o:=by cases o<;>simp[qbw,qd6,qh4]
theorem q2g(s:ESt)(v:LV):s.app (fun _ _=>none) s.heap.next s.heap.next (s.heap.next+1) v=s.on (s.heap.add s.heap.next (.lst v)):=by
 unfold ESt.app ESt.on qad.app qad.add;congr 1
 ·funext t;exact qh4 _
 ·congr 1;funext j;cases Nat.beq j s.heap.next with
  |true=>rfl
  |false=>simp only[cond_false];exact qre _
def ql1(k:Nat):Nat->List Nat->Option EV:=fun id _=>bif Nat.beq id k then some .un else none
def zej(s:ESt)(N:Ty)(u:EV)(K:List N.D->Option ρ):Option ρ:=match u with
 |.qby=>K []
 |.fz τ' l=>match qbt List τ' N l with|some y=>K y|none=>none
 |.qa5 id p=>match s.heap.at id p with
  |some v=>match qbt List v.N N v.l with|some y=>K y|none=>none
  |none=>none
 |_=>none
theorem q3z{s:ESt}{N:Ty}{x:Operand}{K:List N.D->Option ρ}{res:ρ}(hf:qj2 N=true)(h:zej s N (s.eval x) K=some res) :
  ∃(l:List N.D) (news:Nat->Nat->V),Src (qbc s) x l.length N.sz news/\(∀i,i<l.length->∀j,j<N.sz->Wk (news i j) (.t (qj6 N (l.getD i N.z) j)))/\K l=some res:=by
 unfold zej at h;split at h
 ·rename_i hx;have hx:=eval_eq hx rfl;simp only[toV]at hx;exact⟨[],_,Src.qby hx,fun i hi=>absurd hi (zhf _),h⟩
 ·rename_i τ' l hx;split at h
  ·rename_i y hy;obtain⟨e,hy⟩:=qa0 hy;subst e;obtain rfl:=eq_of_heq hy;have hx:=eval_eq hx rfl;simp only[toV,qx0]at hx;exact⟨l,_,Src.sl hx,fun i hi j hj=>Wk.refl _,h⟩
  ·cases h
 ·rename_i id p hx;split at h
  ·rename_i v hv;split at h
   ·rename_i y hy;obtain⟨e,hy⟩:=qa0 hy;obtain⟨ve,vτ,vl⟩:=v;simp only at e hy h;subst e;obtain rfl:=eq_of_heq hy;have hx:=eval_eq hx rfl;simp only[toV,qad.qf1 hv]at hx;have hs:=qb3 hv;exact⟨vl,_,Src.qbq hx hs rfl rfl,fun i hi j hj=>by
     obtain⟨u,e1,e2⟩:=qdt vτ (vl.getD i vτ.z) j hf;rw[zh3];show Wk (qbd _ _ _ i j (qam vτ (LV.row ⟨ve,vτ,vl⟩ i) j)) _;have e3:qam vτ (LV.row ⟨ve,vτ,vl⟩ i) j=.ev u:=e1;rw[e3];exact Wk.of_eq (e2 hj _),h⟩
   ·cases h
  ·cases h
 ·cases h
def zfm(P:Program)[Tys P][TyE P](s:ESt)(d:Option Tmp)(t:Nat)(x y:Operand)(K:ESt->Option ρ):Option ρ:=match(Tys.c P t).sl with
 |some (e,sz,by_)=>match TyE.c P e,(Tys.c P e).zero with
  |some N,some z=>bif Nat.beq N.sz sz&&Nat.beq z.cells.size sz then
    zej s N (s.eval y) fun l2=>match s.eval x with
     |.qby=>grd (okB (l2.length*by_<=140737488355328/\l2.length<=281474976710656)) (bif Nat.ble s.heap.lo s.heap.next then qvd s d (fun id=>.qa5 id []) K (.lst ⟨e,N,l2⟩)else none)
     |.qa5 id []=>match s.heap.obj id with
      |.lst v=>match qbt List v.N N v.l with
       |some l=>bif Nat.beq v.e e then grd (okB ((l.length+l2.length)*by_<=140737488355328/\l.length+l2.length<=281474976710656))
         (bif Nat.ble s.heap.lo id then K ((s.app (ql1 id) id id s.heap.next ⟨e,N,l++l2⟩).put d (.qa5 id []))
           else bif Nat.ble s.heap.lo s.heap.next then qw6 s.heap.next fun k2=>K ((s.app (ql1 id) id k2 (k2+1) ⟨e,N,l++l2⟩).put d (.qa5 k2 []))else none)else none
       |none=>none
      |_=>none
     |_=>none
   else none
  |_,_=>none
 |none=>none
theorem q9u[T:Tys P][TE:TyE P]{s:ESt}{t:Nat}{x y:Operand}{K:ESt->Option ρ}{res:ρ}(hK:∀s',K s'=some res->SLT P L Q s')(h:zfm P s d t x y K=some res):SLT P (⟨d,.call { callee:=.builtin .append,args:=#[x,y],argTypes:=#[t,t] },ty,none⟩::L) Q s:=by
 refine⟨SL.fair fun hf=>?_⟩;unfold zfm at h;split at h
 ·rename_i e sz by_ hsl;have ht:=(T.ok t).sl _ _ _ hsl;split at h
  ·rename_i N z hτ hz;have hzz:=(T.ok e).zero _ hz;have hfro:=TE.fro e N hτ;have hh:=qaf h;clear h;obtain⟨hb,h⟩:=hh;simp only[zgz]at hb;obtain⟨b1,b2⟩:=hb;obtain rfl:=qbl b1;obtain⟨l2,news,s1,s2,h⟩:=q3z hfro h;split at h
   ·rename_i hx;have hx:=eval_eq hx rfl;simp only[toV]at hx;obtain⟨hp,h⟩:=qbs h;obtain⟨p1,p2⟩:=qc5 hp;obtain⟨hlo,h⟩:=qaf h;have hlo:=zg4 hlo;rw[qfm]at h;have hunb:∀p,(toH s.heap).slot ⟨s.heap.next,p⟩=.qae:=fun p=>hf.next ⟨s.heap.next,p⟩ (zg3 _);refine SL.q2f (P:=P) (t:=t) (by_:=by_) (e:=e) (z:=z) (o:={ elem:=e,sz:=N.sz,ver:=0,n:=0,get:=fun _ _=>.un }) rfl rfl rfl rfl hx (qbl b2) s1 p1 p2 (SL.weak ?_ (hK _ h).out);rw[<- q2g];refine qum (k:=s.heap.next) (k2:=s.heap.next) (nx:=s.heap.next+1) (v:=⟨e,N,l2⟩) (a1:=qcu.app { elem:=e,sz:=N.sz,ver:=0,n:=0,get:=fun _ _=>.un } l2.length news) hf hfro (fun i=>?_) rfl rfl rfl (by simp[qcu.app]) (fun r hr c hc=>?_) (fun p _=>hunb p) (.inl rfl) (by omega) (by omega) (by omega) ?_ (fun id p _ hb e=>hb (by rw[e];exact hunb p)) (fun _ _ _=>rfl) (fun _ _ _ h=>by cases h) d (fun _=>Wk.refl _)
    ·show(bif Id.beq i ⟨s.heap.next,[]⟩then _ else(bif Id.beq i ⟨s.heap.next,[]⟩then _ else _))=_;rw[qef,qef]
     split<;>rfl
    ·have hr:r<0+l2.length:=hr;show Wk (bif Nat.blt r 0 then V.un else news (r-0) c) _;have:Nat.blt r 0=false:=rfl;rw[this];exact s2 r (by omega) c hc
    ·exact hlo
   ·rename_i id hx;split at h
    ·rename_i v ho;obtain⟨ve,vτ,vl⟩:=v;split at h
     ·rename_i y' hy;obtain⟨e1,hy⟩:=qa0 hy;simp only at e1 hy;subst e1;obtain rfl:=eq_of_heq hy;have hh:=qaf h;clear h;obtain⟨b3,h⟩:=hh;simp only at b3;obtain rfl:=qbl b3;obtain⟨hp,h⟩:=qbs h;obtain⟨p1,p2⟩:=qc5 hp;have hat:s.heap.at id []=some ⟨ve,vτ,vl⟩:=by simp only[qad.at,ho,LV.qa6]
      have hx:=eval_eq hx rfl;simp only[toV,qad.qf1 hat]at hx;have hs:=qb3 hat;have hlive:id<s.heap.next:=Classical.byContradiction fun hn=>by
       have:=hf.next ⟨id,[]⟩ (zhz hn);rw[hs]at this;cases this
      have hunb:∀p,(toH s.heap).slot ⟨s.heap.next,p⟩=.qae:=fun p=>hf.next ⟨s.heap.next,p⟩ (zg3 _);have hold:∀p,p≠[]->(toH s.heap).slot ⟨id,p⟩=.qae:=fun p hp=>by
       show(s.heap.obj id).slot _ _ _=_;rw[ho];exact OD.qi6 (o:=.lst ⟨ve,vτ,vl⟩) hfro p hp
      refine SL.append (P:=P) (t:=t) (by_:=by_) (z:=z) hx hs rfl rfl rfl rfl (qbl b2) s1 p1 p2 ?_;have main:∀k2 nx,(k2=id\/∀p,(toH s.heap).slot ⟨k2,p⟩=.qae)->s.heap.next<=nx->k2<nx->s.heap.lo<=k2->K ((s.app (ql1 id) id k2 nx ⟨ve,vτ,vl++l2⟩).put d (.qa5 k2 []))=some res->SL P L (qe9 Q) (((qbc s).on ((qbc s).heap.set ⟨id,[]⟩ (qcu.app (LV.obj s.heap.len id [] ⟨ve,vτ,vl⟩) l2.length news))).put d (.qbq ⟨id,[]⟩ (0+1) 0 (vl.length+l2.length))):=fun k2 nx q1 q2 q3 q4 q5=>by
       refine SL.weak (qum (k:=id) (k2:=k2) (nx:=nx) (f:=ql1 id) (v:=⟨ve,vτ,vl++l2⟩) (a1:=qcu.app (LV.obj s.heap.len id [] ⟨ve,vτ,vl⟩) l2.length news) hf hfro (fun i=>?_) rfl rfl rfl (by simp[qcu.app,LV.obj]) (fun r hr c hc=>?_) hold q1 q2 (by omega) q3 q4 (fun j p e _ e2=>by subst e2;simp[ql1]at e) (fun j p hne=>by simp only[ql1,qav hne,cond_false]) (fun j p u h=>by unfold ql1 at h;cases hb:Nat.beq j id<;>rw[hb]at h<;>first|(cases h;done)|(injection h with h;exact h.symm)) d (fun _=>Wk.refl _)) (hK _ q5).out
       ·show(bif Id.beq i ⟨id,[]⟩then _ else _)=_;exact qef _ _ _ _
       ·have hr:r<vl.length+l2.length:=hr;have hc:c<vτ.sz:=hc;show Wk (bif Nat.blt r vl.length then qbd s.heap.len id [] r c (qam vτ (LV.row ⟨ve,vτ,vl⟩ r) c)else news (r-vl.length) c) (.t (qj6 vτ ((vl++l2).getD r vτ.z) c));by_cases hrl:r<vl.length
        ·rw[qdc hrl,cond_true];obtain⟨u,e1,e2⟩:=qdt vτ (vl.getD r vτ.z) c hfro;have e3:qam vτ (LV.row ⟨ve,vτ,vl⟩ r) c=.ev u:=e1;rw[e3,qkt hrl];exact Wk.of_eq (e2 hc _)
        ·rw[qdv (zhz hrl),cond_false];have e4:(vl++l2).getD r vτ.z=l2.getD (r-vl.length) vτ.z:=by simp only[zg0,List.getElem?_append_right (zhz hrl)]
         rw[e4];exact s2 (r-vl.length) (by omega) c hc
      cases hlo:Nat.ble s.heap.lo id with
      |true=>
       rw[hlo]at h;exact main id s.heap.next (.inl rfl) (zg3 _) hlive (zg4 hlo) h
      |false=>
       rw[hlo]at h;simp only[cond_false]at h;obtain⟨hlo2,h⟩:=qaf h;rw[qfo]at h;exact main s.heap.next (s.heap.next+1) (.inr hunb) (by omega) (by omega) (zg4 hlo2) h
     ·cases h
    ·cases h
   ·cases h
  ·cases h
 ·cases h
end
end
end Go.Abs
namespace Go.Abs
open Go
variable {P:Program} {d:Option Tmp} {ty:TypeId} {L:List GOp} {ρ:Type}
section
variable [SU] [qa2] {Q:Exit->ESt->Prop}
theorem LV.qwu{v:LV}{r:Nat}{y:v.N.D}(hr:r<v.l.length)(hy:∀c,(v.setRow r y).kid c r=v.kid c r) :
  ∀q,((v.setRow r y).at q=none/\v.at q=none)\/∃a a',v.at q=some a/\(v.setRow r y).at q=some a'/\a.Alike a' (fun r' c'=>q=[]/\r'=r)
 |[]=>by
  refine .inr ⟨v,v.setRow r y,LV.qa6 _,LV.qa6 _,rfl,rfl,by simp[LV.setRow],fun r' c' hn=>?_⟩;have e:(v.setRow r y).row r'=if r'=r then y else v.row r':=LV.qbx hr r';show(qam v.N (v.row r') c').Sim (qam v.N ((v.setRow r y).row r') c');rw[e,if_neg (fun h=>hn ⟨rfl,h⟩)];exact Cell.Sim.rfl _
 |[x]=>.inl ⟨LV.qfi _ _,LV.qfi _ _⟩
 |c2::r2::q=>by
  have hk:(v.setRow r y).kid c2 r2=v.kid c2 r2:=by
   by_cases h:r2=r
   ·subst h;exact hy c2
   ·refine LV.qmm ?_;have e:(v.setRow r y).row r2=if r2=r then y else v.row r2:=LV.qbx hr r2;show qam v.N ((v.setRow r y).row r2) c2=_;rw[e,if_neg h]
  rw[LV.qbu,LV.qbu,hk];cases v.kid c2 r2 with
  |none=>exact .inl ⟨rfl,rfl⟩
  |some k=>
   show(LV.at k q=none/\LV.at k q=none)\/_;cases h:LV.at k q with
   |none=>exact .inl ⟨rfl,rfl⟩
   |some a=>exact .inr ⟨a,a,h,h,LV.Alike.refl _ _⟩
theorem LV.qz1:∀(p:List Nat) (v w0 v':LV) (r:Nat) (y:w0.N.D),v.at p=some w0->r<w0.l.length->(∀c,(w0.setRow r y).kid c r=w0.kid c r)->v.put p (w0.setRow r y)=some v' ->
  v'.at p=some (w0.setRow r y)/\(∀q,(v'.at q=none/\v.at q=none)\/∃a a',v.at q=some a/\v'.at q=some a'/\a.Alike a' (fun r' c'=>q=p/\r'=r))/\v'.e=v.e/\v'.N=v.N
 |[],v,w0,v',r,y,ha,hr,hy,hp=>by
  rw[LV.qa6]at ha;injection ha with ha;subst ha;rw[LV.put]at hp;injection hp with hp;subst hp;exact⟨LV.qa6 _,LV.qwu hr hy,rfl,rfl⟩
 |[x],v,w0,v',r,y,ha,hr,hy,hp=>by rw[LV.qfi]at ha;cases ha
 |c1::r1::p,v,w0,v',r,y,ha,hr,hy,hp=>by
  obtain⟨k,k',y1,hk,hp1,hs,rfl⟩:=LV.qu5 hp;rw[LV.qbu,hk]at ha;have ha:LV.at k p=some w0:=ha;obtain⟨i1,i2,i3,i4⟩:=LV.qz1 p k w0 k' r y ha hr hy hp1;obtain⟨⟨l0,s1⟩,s2,s3⟩:=quu _ _ _ _ _ _ _ hs;have hkc:=LV.qgh hk;have hr1:r1<v.l.length:=by
   refine Classical.byContradiction fun hn=>?_;have e:v.row r1=v.N.z:=by unfold LV.row;rw[zg0,ziw (by omega)];rfl
   rw[e]at hkc;have hz:=qn0 _ _ _ _ _ hkc;have:=LV.qgl p k w0 hz ha;rw[this]at hr;simp at hr
  have hkid:(v.setRow r1 y1).kid c1 r1=some k':=by
   have e:(v.setRow r1 y1).row r1=y1:=by rw[LV.qbx hr1,if_pos rfl]
   exact LV.qd8 (v:=v.setRow r1 y1) (c:=c1) (r:=r1) (t:=k'.e) (e:=k'.N) (l:=k'.l) (by rw[e];exact s2)
  refine⟨by rw[LV.qbu,hkid];exact i1,fun q=>?_,rfl,rfl⟩
  by_cases hpre:[c1,r1] <+: q
  ·obtain⟨s,rfl⟩:=hpre;show((v.setRow r1 y1).at (c1::r1::s)=none/\v.at (c1::r1::s)=none)\/_;rw[LV.qbu,hkid,LV.qbu,hk];rcases i2 s with h|⟨a,a',h1,h2,h3⟩
   ·exact .inl h
   ·refine .inr ⟨a,a',by rw[zh9,zh9,zhv,LV.qbu,hk];exact h1,by rw[zh9,zh9,zhv,LV.qbu,hkid];exact h2,h3.e,h3.N,h3.n,fun r' c' hn=>h3.c r' c' (fun⟨e1,e2⟩=>hn ⟨by rw[e1];rfl,e2⟩)⟩
  ·rcases LV.qlu (v:=v) (r:=r1) (c:=c1) (y:=y1) hr1 (.inr trivial) s3 q hpre with h|⟨a,a',h1,h2,h3⟩
   ·exact .inl h
   ·refine .inr ⟨a,a',h1,h2,h3.e,h3.N,h3.n,fun r' c' hn=>?_⟩;by_cases hc:q=[]/\r'=r1/\c'=c1
    ·obtain⟨rfl,rfl,rfl⟩:=hc;rw[LV.qa6]at h1 h2;injection h1 with h1;subst h1;injection h2 with h2;subst h2;have e:(v.setRow r' y1).row r'=y1:=by rw[LV.qbx hr1,if_pos rfl]
     rw[e,hkc];show(Cell.own k.e k.N k.l).Sim (qam v.N y1 c');rw[s2];have hlen:k'.l.length=k.l.length:=by
      rcases i2 []with⟨_,h⟩|⟨a,a',h1,h2,h3⟩
      ·rw[LV.qa6]at h;cases h
      ·rw[LV.qa6]at h1 h2;injection h1 with h1;subst h1;injection h2 with h2;subst h2;exact h3.n
     exact⟨i3.symm,i4.symm,hlen.symm⟩
    ·exact h3.c r' c' hc
def qrc(N:Ty)(x:N.D)(c:Nat):List EV->Option N.D
 |[]=>some x
 |v::l=>match qww N x c v with
  |some y=>qrc N y (c+1) l
  |none=>none
theorem qut{N:Ty}:∀(l:List EV) (x:N.D) (c:Nat) (y:N.D),qrc N x c l=some y ->
  (∀j,c<=j/\j<c+l.length->(∃u,qam N x j=.ev u)/\∃u,qam N y j=.ev u/\∀len,Wk (qa3 len l (j-c)) (toV len u))/\∀j,¬ (c<=j/\j<c+l.length)->qam N y j=qam N x j
 |[],x,c,y,h=>by
  simp only[qrc]at h;injection h with h;subst h;exact⟨fun j hj=>by simp only[zg7]at hj;omega,fun j _=>rfl⟩
 |v::l,x,c,y,h=>by
  simp only[qrc]at h;split at h
  ·rename_i x1 h1;obtain⟨⟨u0,a1⟩,⟨u1,a2,a3⟩,a4⟩:=qlw N x c v x1 h1;obtain⟨b1,b2⟩:=qut l x1 (c+1) y h;refine⟨fun j hj=>?_,fun j hj=>?_⟩
   ·simp only[zg1]at hj;by_cases hjc:j=c
    ·subst hjc;have e:=b2 j (by omega);refine⟨⟨u0,a1⟩,u1,e.trans a2,fun len=>?_⟩;rw[Nat.sub_self];simp only[qa3];exact a3 len
    ·obtain⟨⟨u,c1⟩,u',c2,c3⟩:=b1 j (by omega);refine⟨⟨u,by rw[<- a4 j hjc];exact c1⟩,u',c2,fun len=>?_⟩
     have e:j-c=(j-(c+1))+1:=by omega
     rw[e];simp only[qa3];exact c3 len
   ·simp only[zg1]at hj;rw[b2 j (by omega),a4 j (by omega)]
  ·cases h
def qnm:EV->Nat
 |.st k _=>SU.sz k
 |.agg l=>l.length
 |_=>0
def Cell.kid:Cell->Option LV
 |.own t e l=>some ⟨t,e,l⟩
 |.ev _=>none
theorem LV.q6t(v:LV)(c r:Nat):v.kid c r=(qam v.N (v.row r) c).kid:=by
 unfold LV.kid LV.row
 split<;>rename_i h<;>rw[h]<;>rfl
def zc1(i:Nat):(N:Ty)->SU.D i->Option N.D
 |.st i',v=>qt2 SU.D i i' v
 |_,_=>none
def qzp(N:Ty)(x:N.D)(c:Nat)(u:EV):Option N.D:=match u with
 | .st i v=>bif qa2.fro i then(match zc1 i N v with
   |some y=>bif Nat.beq c 0 then some y else none
   | none=>qrc N x c (qc3 0 [] (.st i) v 0 0 (SU.sz i)))else none
 |.agg l=>qrc N x c l
 |_=>none
def qsl(len:Len):EV->Nat->V
 |.st i v,j=>.t (SU.enc i v j)
 |.agg l,j=>qa3 len l j
 |_,_=>.un
structure qkv(N:Ty)(x y:N.D)(c n:Nat)(g:Len->Nat->V):Prop where
 kid:∀j,(qam N y j).kid=(qam N x j).kid
 old:∀j,j<N.sz->¬ (c<=j/\j<c+n)->qam N y j=qam N x j
 new:∀j,j<N.sz->c<=j/\j<c+n->∃u,qam N y j=.ev u/\∀len,Wk (g len (j-c)) (toV len u)
theorem qkv.sets{N:Ty}{x y:N.D}{c:Nat}{l:List EV}(h:qrc N x c l=some y):qkv N x y c l.length (fun len=>qa3 len l):=by
 obtain⟨a,b⟩:=qut _ _ _ _ h;refine⟨fun j=>?_,fun j _ hj=>b j hj,fun j _ hj=>(a j hj).2⟩;by_cases hj:c<=j/\j<c+l.length
 ·obtain⟨⟨u,e1⟩,u',e2,_⟩:=a j hj;rw[e1,e2];rfl
 ·rw[b j hj]
theorem qkv.set{N:Ty}{x y:N.D}{c:Nat}{u:EV}(h:qww N x c u=some y):qkv N x y c 1 (fun len _=>toV len u):=by
 obtain⟨⟨u0,a1⟩,⟨u1,a2,a3⟩,a4⟩:=qlw N x c u y h;refine⟨fun j=>?_,fun j _ hj=>a4 j (by omega),fun j _ hj=>?_⟩
 ·by_cases hj:j=c
  ·subst hj;rw[a1,a2];rfl
  ·rw[a4 j hj]
 ·obtain rfl:j=c:=by omega
  exact⟨u1,a2,a3⟩
theorem qzo{N:Ty}{x y:N.D}{c:Nat}{u:EV}(h:qzp N x c u=some y):qkv N x y c (qnm u) (fun len=>qsl len u):=by
 unfold qzp at h;split at h
 ·rename_i i v;have parts:qa2.fro i=true->qrc N x c (qc3 0 [] (.st i) v 0 0 (SU.sz i))=some y->qkv N x y c (qnm (EV.st i v)) (fun len=>qsl len (EV.st i v)):=fun hf h=>by
   have k:=qkv.sets h;rw[qb0]at k;refine⟨k.kid,k.old,fun j h1 h2=>?_⟩;have h2:c<=j/\j<c+SU.sz i:=h2;obtain⟨u',c1,c2⟩:=k.new j h1 h2;refine⟨u',c1,fun len=>?_⟩;have:=c2 len;rw[qds _ _ _ _ _ _ _ _ _ (by omega),zg9,qif (N:=.st i) hf (by show j-c<SU.sz i;omega)]at this
   exact this
  obtain⟨hf,h⟩:=qaf h;cases N with
  |st i'=>
   simp only[zc1]at h;split at h
   ·rename_i y' hy;obtain⟨hc,h⟩:=qaf h;injection h with h;subst h;obtain rfl:=qbl hc;obtain⟨e,hy⟩:=qi9 _ _ _ _ _ hy;subst e;obtain rfl:=eq_of_heq hy;refine⟨fun j=>?_,fun j h1 h2=>?_,fun j h1 h2=>?_⟩
    ·obtain⟨u1,e1,_⟩:=qa2.qed i v j hf;obtain⟨u2,e2,_⟩:=qa2.qed i x j hf;simp only[qam,e1,e2];rfl
    ·exact absurd ⟨Nat.zero_le _,by rw[zg9];exact h1⟩ h2
    ·obtain⟨u',e1,e2⟩:=qa2.qed i v j hf;exact⟨u',e1,fun len=>Wk.of_eq (e2 h1 len).symm⟩
   ·exact parts hf h
  |_=>exact parts hf h
 ·rename_i l;exact qkv.sets h
 ·cases h
theorem qkv.kids{v:LV}{r c n:Nat}{y:v.N.D}{g:Len->Nat->V}(hr:r<v.l.length)(k:qkv v.N (v.row r) y c n g):∀c',(v.setRow r y).kid c' r=v.kid c' r:=fun c'=>by
 rw[LV.q6t,LV.q6t];have e:(v.setRow r y).row r=y:=by rw[LV.qbx hr,if_pos rfl]
 show(qam v.N ((v.setRow r y).row r) c').kid=_;rw[e];exact k.kid c'
theorem qra{len len':Len}{k:Nat}{p:List Nat}{r c:Nat}{x x':Cell}(h:x.Sim x')(hd:∀u,x=.ev u->u.dat=true):qbd len' k p r c x'=qbd len k p r c x:=by
 cases x with
 |ev u=>
  cases x' with
  |ev u'=>
   have h:u=u':=h;subst h;exact EV.qm9 (hd u rfl) _ _
  |own t e l=>exact h.elim
 |own t e l=>
  cases x' with
  |ev u'=>exact h.elim
  |own t' e' l'=>
   obtain⟨h1,h2,h3⟩:=h;show V.qbq _ 0 0 l'.length=V.qbq _ 0 0 l.length;rw[h3]
theorem qn2{s:ESt}{id:Nat}{p:List Nat}{root v root':LV}{r c n:Nat}{y:v.N.D}{g:Len->Nat->V}{o1:qcu}(hf:Fair s)(ho:s.heap.obj id=.lst root)(hv:root.at p=some v)(hr:r<v.l.length)
  (hy:qkv v.N (v.row r) y c n g) (hp:root.put p (v.setRow r y)=some root')
  (h1:o1.ver=0) (h2:o1.elem=v.e) (h3:o1.sz=v.N.sz) (h4:o1.n=v.l.length)
  (h5:∀i,i<v.l.length->∀j,j<v.N.sz->(¬ (i=r/\c<=j/\j<c+n)/\o1.get i j=(v.obj s.heap.len id p).get i j)\/(i=r/\(c<=j/\j<c+n)/\Wk (o1.get i j) (g s.heap.len (j-c))))
  (d:Option Tmp):qgs (((qbc s).on ((qbc s).heap.set ⟨id,p⟩ o1)).put d .un) (qbc ((s.on (s.heap.set id (.lst root'))).put d .un)):=by
 obtain⟨a1,a2,a3,a4⟩:=LV.qz1 p root v root' r y hv hr (hy.kids hr) hp;have hnewat:∀q,(s.heap.set id (.lst root')).at id q=root'.at q:=fun q=>by simp only[qad.at,qad.set,zhc,cond_true]
 have holdat:∀q,s.heap.at id q=root.at q:=fun q=>by simp only[qad.at,ho]
 have hlen:∀j q,(s.heap.set id (.lst root')).len j q=s.heap.len j q:=fun j q=>by
  by_cases hj:j=id
  ·subst hj;unfold qad.len;simp only[qad.set,zhc,cond_true,ho,OD.len];rcases a2 q with⟨e1,e2⟩|⟨x,x',e1,e2,e3⟩
   ·rw[e1,e2]
   ·rw[e1,e2];simp only[e3.n]
  ·exact qad.qg7 (qad.qip hj) q
 have hs1:∀i:Id,((qbc s).heap.set ⟨id,p⟩ o1).slot i=if i=⟨id,p⟩then .live o1 else(toH s.heap).slot i:=fun i=>by
  show(bif Id.beq i ⟨id,p⟩then _ else _)=_;exact qef _ _ _ _
 have hsn:∀q,(toH (s.heap.set id (.lst root'))).slot ⟨id,q⟩=(OD.lst root').slot (s.heap.set id (.lst root')).len id q:=fun q=>by
  show((s.heap.set id (.lst root')).obj id).slot _ _ _=_;simp only[qad.set,zhc,cond_true]
 have hso:∀q,(toH s.heap).slot ⟨id,q⟩=(OD.lst root).slot s.heap.len id q:=fun q=>by
  show(s.heap.obj id).slot _ _ _=_;rw[ho]
 refine qgv hf id (fun k' hk=>by simp only[qad.set,qav hk,cond_false]) (fun j q _=>hlen j q) (fun i hi=>by rw[hs1,if_neg (fun e=>hi (by rw[e]))]) rfl (fun hn i hi=>?_) (fun q hne=>?_) (fun q o' hl=>?_) (fun q sb g' hl=>?_) d (fun _=>by simp only[toV];exact Wk.refl _)
 ·by_cases hi2:i.k=id
  ·obtain⟨j,q⟩:=i;simp only at hi2;subst hi2;have:=hn ⟨j,q⟩ hi;rw[hs1]at this;rw[hsn];split at this
   ·cases this
   ·rw[hso]at this;simp only[OD.slot]at this ⊢;rcases a2 q with⟨e1,e2⟩|⟨x,x',e1,e2,e3⟩
    ·rw[e1]
    ·rw[e1]at this;cases this
  ·have:=hf.next i hi;have h':(s.heap.obj i.k).slot s.heap.len i.k i.p=.qae:=this;show((s.heap.set id (.lst root')).obj i.k).slot _ _ _=.qae;simp only[qad.set,qav hi2,cond_false];exact(qfs (len:=s.heap.len)).2.2 h'
 ·rw[hs1]at hne ⊢;rw[hsn];simp only[OD.slot];by_cases hq:q=p
  ·subst hq;rw[if_pos rfl,a1];exact⟨h1.symm,h2.symm,h3.symm,by show(v.l.set r y).length=o1.n;rw[List.length_set,h4]⟩
  ·rw[if_neg (fun e=>hq (by injection e)),hso]at hne ⊢;simp only[OD.slot]at hne ⊢;rcases a2 q with⟨e1,e2⟩|⟨x,x',e1,e2,e3⟩
   ·rw[e2]at hne;exact absurd rfl hne
   ·rw[e1,e2];exact⟨rfl,e3.e,by show x'.N.sz=x.N.sz;rw[e3.N],e3.n⟩
 ·rw[hsn]at hl;rw[hs1];simp only[OD.slot]at hl;by_cases hq:q=p
  ·subst hq;rw[a1]at hl;injection hl with hl;subst hl;refine⟨o1,if_pos rfl,fun i hi j hj=>?_⟩;have hi:i<v.l.length:=by omega
   have hj:j<v.N.sz:=by omega
   have er:(v.setRow r y).row i=if i=r then y else v.row i:=LV.qbx hr i;show Wk (o1.get i j) (qbd _ id q i j (qam v.N ((v.setRow r y).row i) j));rw[er];rcases h5 i hi j hj with⟨b1,b2⟩|⟨b1,b2,b3⟩
   ·rw[b2];have hc:qam v.N (if i=r then y else v.row i) j=qam v.N (v.row i) j:=by
     by_cases hir:i=r
     ·subst hir;rw[if_pos rfl];exact hy.old j hj (fun e=>b1 ⟨rfl,e.1,e.2⟩)
     ·rw[if_neg hir]
    rw[hc];exact Wk.of_eq (qra (Cell.Sim.rfl _) (qbf _ _ _)).symm
   ·subst b1;rw[if_pos rfl];obtain⟨u,e1,e2⟩:=hy.new j hj b2;rw[e1];refine b3.trans ?_;simp only[qbd];rw[EV.qm9 (qbf _ _ _ _ e1) _ s.heap.len];exact e2 _
  ·rcases a2 q with⟨e1,e2⟩|⟨x,x',e1,e2,e3⟩
   ·rw[e1]at hl;cases hl
   ·rw[e2]at hl;injection hl with hl;subst hl;refine⟨x.obj s.heap.len id q,by rw[if_neg (fun e=>hq (by injection e)),hso];simp only[OD.slot,e1],fun i hi j hj=>?_⟩
    exact Wk.of_eq (qra (e3.c i j (fun e=>hq e.1)) (qbf _ _ _)).symm
 ·rw[hsn]at hl;simp only[OD.slot]at hl;cases hv2:root'.at q<;>rw[hv2]at hl<;>cases hl
end
end Go.Abs
