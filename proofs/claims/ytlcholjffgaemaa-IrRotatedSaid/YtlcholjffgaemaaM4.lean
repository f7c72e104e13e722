/-
Texts of the proof, part 4: J2 J3 J4 K3 K4 K6 K7 K5 K8 H7 J5 J6 J7.
No statement of the program is proved here.
-/
import Derived.Test.YtlcholjffgaemaaM3
import Derived.ChangeKeysEq
import Derived.Laws.NewFold
set_option linter.unusedVariables false
set_option linter.unusedSimpArgs false
set_option linter.unusedSectionVars false
namespace Go.Abs
open Go
noncomputable section
variable {P:Program} {d:Option Tmp} {ty:TypeId} {ρ:Type}
def zfs(P:Program)(t:TypeId)(n:Nat)(q:TypeDesc):Bool:=match P.underlying t with
 | some (.array n' e)=>Nat.beq n' n&&(zdm (P.underlying e) q&&(Nat.beq (P.cellsOf e) 1&&((match P.info? e with
  |some i=>Nat.beq i.size 1
  | none=>false)&&!P.eqGuardType P.depth t)))
 |_=>false
where
 zdm:Option TypeDesc->TypeDesc->Bool
 |some (.int k),.int k'=>qdy k k'
 |some .bool,.bool=>true
 |some .string,.string=>true
 |_,_=>false
structure qfr where
 nf:Option Nat:=none
 eq:Option (List TypeDesc):=none
 mp:Option (Bool×TypeId×Ty):=none
 ar:Option (Nat×Nat):=none
 ba:Option (Nat×TypeDesc):=none
def qrq:Option TypeDesc->TypeDesc->Bool
 |some (.int k),.int k'=>qdy k k'
 |some .bool,.bool=>true
 |some .string,.string=>true
 |_,_=>false
theorem qvm{o:Option TypeDesc}{x:TypeDesc}(h:qrq o x=true):o=some x:=by
 unfold qrq at h;split at h
 ·rw[qc6 h]
 ·rfl
 ·rfl
 ·cases h
def zfp(P:Program):List Field->List TypeDesc->Nat->Bool
 |[],[],_=>true
 | f :: l, x :: m, k => !(f.name == "_") && (Nat.beq f.offset k && (qrq (P.underlying f.type) x && zfp P l m (k + 1)))
 |_,_,_=>false
def eqTy(P:Program)(t:TypeId)(l:List TypeDesc):Bool:=match P.underlying t with
 |some (.struct fs)=>!P.stoodInHeld t&&(!P.eqGuardType P.depth t&&zfp P fs.toList l 0)
 |_=>false
structure qfr.Ok(P:Program)[Tys P](t:TypeId)(c:qfr):Prop where
 nf:∀n,c.nf=some n->∃fs,P.underlying t=some (.struct fs)/\fs.size=n/\(Tys.c P t).fields.length=n
 eq:∀l,c.eq=some l->eqTy P t l=true
 mp:∀s e U,c.mp=some (s,e,U)->zhq P t s e
 ar:∀n s,c.ar=some (n,s)->∃e,qu4 P t n e s
 ba:∀n q,c.ba=some (n,q)->zfs P t n q=true
theorem qw5{P:Program}{t:TypeId}{n:Nat}{q:TypeDesc}(h:zfs P t n q=true):∃e i,P.underlying t=some (.array n e)/\qrq (P.underlying e) q=true/\P.cellsOf e=1/\P.info? e=some i/\i.size=1/\P.eqGuardType P.depth t=false:=by
 unfold zfs at h;split at h
 ·rename_i n' e hu;simp only[zi4,zjo]at h;obtain⟨h1,h2,h3,h4,h5⟩:=h;obtain rfl:=zi6 h1;split at h4
  ·rename_i i hi;refine⟨e,i,hu,?_,zi6 h3,hi,zi6 h4,h5⟩;unfold zfs.zdm at h2;unfold qrq;exact h2
  ·cases h4
 ·cases h
class TyX(P:Program)[Tys P] where
 x:TypeId->qfr
 ok:∀t,qfr.Ok P t (x t)
section
variable [SU] [qa3]
def EV.isStr:EV->Bool
 |.st _ _=>true
 |.agg _=>true
 |_=>false
def qt1(u:EV)(K:List EV->Option ρ):Option ρ:=match u with
 |.st i x=>bif qa3.fro i then K (qdc 0 [] (.st i) x 0 0 (SU.sz i))else none
 |.agg l=>K l
 |.un=>none
 |.und=>none
 |.tup _=>none
 |u=>K [u]
structure qq8(H:qbh)(M:Id->Option Nat)(F:Nat->Prop)(w:World)(len:Len)(l:List EV)(cs:Array Value):Prop where
 sz:cs.size=l.length
 get:∀j,j<l.length->∃c,cs[j]?=some c/\c.oneCell'=true/\qa0 H M F w (qa4 len l j) c
theorem qi9{u:EV}{K:List EV->Option ρ}{res:ρ}(h:qt1 u K=some res):∃l,K l=some res/\∀H M F w len v,qa0 H M F w (toV len u) v->qq8 H M F w len l v.cells:=by
 have one:∀u':EV,(∀len,(toV len u').one=true)->∀H M F w len v,qa0 H M F w (toV len u') v->qq8 H M F w len [u'] v.cells:=by
  intro u' ho H M F w len v hv;have hp:=V.qha (ho len) hv
  have hc:v.cells=#[v]:=by cases v<;>first|rfl|(simp[Value.oneCell']at hp)
  refine⟨by rw[hc];rfl,fun j hj=>⟨v,?_,hp,?_⟩⟩
  ·have:j=0:=by simpa using hj
   subst this;rw[hc];rfl
  ·have:j=0:=by simpa using hj
   subst this;exact hv
 unfold qt1 at h;split at h
 ·rename_i i x;obtain⟨hf,h⟩:=qah h;refine⟨_,h,fun H M F w len v hv=>?_⟩;obtain⟨cs,rfl,h2,h3⟩:=hv;refine⟨by rw[qby];exact h2,fun j hj=>?_⟩
  rw[qby]at hj;obtain⟨c,a,b,e⟩:=h3 j hj;refine⟨c,a,b,?_⟩;rw[qd2 len 0 [] (.st i) x 0 (SU.sz i) 0 j hj,zjf,qir (U:=.st i) hf hj];exact e
 ·rename_i l;refine⟨_,h,fun H M F w len v hv=>?_⟩;obtain⟨cs,rfl,h2,h3⟩:=hv;exact⟨h2,h3⟩
 ·cases h
 ·cases h
 ·cases h
 ·rename_i h1 h2 h3 h4 h5;refine⟨_,h,one u fun len=>?_⟩
  cases u<;>first|(simp only[toV,V.one];done)|exact absurd rfl (h1 _ _)|exact absurd rfl (h2 _)|exact absurd rfl h3|exact absurd rfl h4|exact absurd rfl (h5 _)|(simp only[toV];split<;>rfl)
def qvi:List EV->Nat->List EV->List EV
 |l,_,[]=>l
 |[],_,_=>[]
 |_::l,0,v::m=>v::qvi l 0 m
 |a::l,n+1,m=>a::qvi l n m
theorem qla:∀(l:List EV) (c:Nat) (m:List EV),(qvi l c m).length=l.length
 |[],c,m=>by cases m<;>simp[qvi]
 |_::_,c,[]=>by simp[qvi]
 |_::l,0,_::m=>by simp only[qvi,zi9,qla l 0 m]
 |_::l,c+1,v::m=>by simp only[qvi,zi9,qla l c (v::m)]
theorem qtl(len:Len):∀(l:List EV) (c:Nat) (m:List EV) (j:Nat),c+m.length<=l.length->qa4 len (qvi l c m) j=if c<=j/\j<c+m.length then qa4 len m (j-c)else qa4 len l j
 |l,c,[],j,h=>by
  have:qvi l c []=l:=by cases l<;>rfl
  rw[this,if_neg (by simp)]
 |[],c,v::m,j,h=>by simp at h
 |a::l,0,v::m,0,h=>by simp[qvi,qa4]
 |a::l,0,v::m,j+1,h=>by
  simp only[qvi,qa4,zi9];rw[qtl len l 0 m j (by simp only[zi9]at h;omega)]
  by_cases hj:j<m.length
  ·rw[if_pos (by omega),if_pos (by omega)];simp only[Nat.sub_zero,qa4]
  ·rw[if_neg (by omega),if_neg (by omega)]
 |a::l,c+1,v::m,0,h=>by simp[qvi,qa4]
 |a::l,c+1,v::m,j+1,h=>by
  simp only[qvi,qa4];rw[qtl len l c (v::m) j (by simp only[zi9]at h ⊢;omega)]
  by_cases hj:c<=j/\j<c+(v::m).length
  ·rw[if_pos hj,if_pos (by omega),show j+1-(c+1)=j-c by omega]
  ·rw[if_neg hj,if_neg (by omega)]
def q2c(fs:List (Nat×Bool×Nat))(ev:Operand->EV):List (Nat×Operand)->List EV->(List EV->Option ρ)->Option ρ
 |[],c,K=>K c
 |(i,x)::r,c,K=>match nth fs i with
  |some (off,_,s)=>qt1 (ev x) fun l=>bif Nat.beq l.length s&&Nat.ble (off+s) c.length then q2c fs ev r (qvi c off l) K else none
  |none=>none
def qq3(P:Program)[Tys P][TyX P](ev:Operand->EV)(t:TypeId)(A:List (Nat×Operand))(K:EV->Option ρ):Option ρ:=match(TyX.x P t).nf,(Tys.c P t).zero with
 |some _,some z=>q2c (Tys.c P t).fields ev A (z.cells.toList.map qd1) fun c=>K (.agg c)
 | none,some z=>(match(TyX.x P t).ba with
  |some (n,_)=>q2c ((List.range n).map fun i=>(i,false,1)) ev A (z.cells.toList.map qd1) fun c=>K (.agg c)
  | none=>none)
 |_,_=>none
theorem q19:∀(l:List Value) (o:Nat) (cs:Array Value) (j0:Nat),o+j0+l.length<=cs.size->((l.zipIdx j0).foldl (fun cs (p:Value×Nat)=>cs.setIfInBounds (o+p.2) p.1) cs).size=cs.size /\
  (∀j,j<l.length->((l.zipIdx j0).foldl (fun cs (p:Value×Nat)=>cs.setIfInBounds (o+p.2) p.1) cs)[o+j0+j]?=l[j]?) /\
  (∀x,x<o+j0\/o+j0+l.length<=x->((l.zipIdx j0).foldl (fun cs (p:Value×Nat)=>cs.setIfInBounds (o+p.2) p.1) cs)[x]?=cs[x]?):=by
 intro l
 induction l with
 |nil=>intro o cs j0 _;exact⟨rfl,fun j hj=>absurd hj (zjj _),fun x _=>rfl⟩
 |cons a l ih=>
  intro o cs j0 hsz;simp only[zi9]at hsz;simp only[List.zipIdx_cons,List.foldl_cons];obtain⟨i1,i2,i3⟩:=ih o (cs.setIfInBounds (o+j0) a) (j0+1) (by simp;omega)
  refine⟨by rw[i1];simp,fun j hj=>?_,fun x hx=>?_⟩
  ·cases j with
   |zero=>
    rw[i3 _ (by omega)];simp[zle (show o+j0<cs.size by omega)]
   |succ j=>
    have:=i2 j (by simpa using hj);rw[show o+j0+(j+1)=o+(j0+1)+j by omega,this];simp
  ·rw[i3 x (by simp only[zi9]at hx;omega)]
   rw[zk9 (by simp only[zi9]at hx;omega)]
theorem qqu{fs:List (Nat×Bool×Nat)}{s:ESt}{place:Nat->Option (Nat×Nat)}(hpl:∀i off a n,nth fs i=some (off,a,n)->place i=some (off,n)){res:ρ}:∀(A:List (Nat×Operand)) (c:List EV) (K:List EV->Option ρ),q2c fs s.eval A c K=some res ->
  ∃c',K c'=some res/\∀E M F a w,Rel E M F (qbf s) a w->∀cs,qq8 (toH s.heap) M F w s.heap.len c cs->∃cs',Instr.fill place cs (A.map fun p=>(p.1,a.eval p.2))=some cs'/\qq8 (toH s.heap) M F w s.heap.len c' cs'
 |[],c,K,h=>⟨c,h,fun E M F a w r cs hc=>⟨cs,rfl,hc⟩⟩
 |(i,x)::A,c,K,h=>by
  simp only[q2c]at h;cases hn:nth fs i with
  |none=>rw[hn]at h;cases h
  |some q=>
   obtain⟨off,ag,n⟩:=q;rw[hn]at h;obtain⟨l,hl,hp⟩:=qi9 h;obtain⟨hb,hl⟩:=qah hl;simp only[zi4]at hb;obtain⟨b1,b2⟩:=hb;have b1:=zi6 b1;have b2:=zi8 b2;obtain⟨c',k1,k2⟩:=qqu hpl A _ K hl;refine⟨c',k1,fun E M F a w r cs hc=>?_⟩;have hv:qa0 (toH s.heap) M F w (toV s.heap.len (s.eval x)) (a.eval x):=s.qdt x _ _ _ _ _ (r.eval x);have pc:=hp _ _ _ _ _ _ hv;have hcz:=hc.sz;have hsz:(a.eval x).cells.size=n:=by rw[pc.sz,b1]
   have hz:(a.eval x).cells.zipIdx.foldl (fun cs (p:Value×Nat)=>cs.setIfInBounds (off+p.2) p.1) cs=((a.eval x).cells.toList.zipIdx 0).foldl (fun cs (p:Value×Nat)=>cs.setIfInBounds (off+p.2) p.1) cs:=by
    rw[<- Array.foldl_toList,Array.toList_zipIdx]
   obtain⟨g1,g2,g3⟩:=q19 (a.eval x).cells.toList off cs 0 (by simp[hsz];omega)
   obtain⟨cs',r1,r2⟩:=k2 E M F a w r (((a.eval x).cells.toList.zipIdx 0).foldl (fun cs (p:Value×Nat)=>cs.setIfInBounds (off+p.2) p.1) cs) ⟨by rw[g1,qla];exact hcz,fun j hj=>by
    rw[qla]at hj;rw[qtl _ _ _ _ _ (by omega)];by_cases hin:off<=j/\j<off+l.length
    ·rw[if_pos hin];obtain⟨v,q1,q2,q3⟩:=pc.get (j-off) (by omega);refine⟨v,?_,q2,q3⟩;have:=g2 (j-off) (by simp[hsz];omega)
     rw[zka,show off+(j-off)=j by omega]at this;rw[this,zkf];exact q1
    ·rw[if_neg hin];obtain⟨v,q1,q2,q3⟩:=hc.get j hj;refine⟨v,?_,q2,q3⟩;rw[g3 j (by simp[hsz];omega)];exact q1⟩
   refine⟨cs',?_,r2⟩;simp only[zjl,Instr.fill,hpl i off ag n hn];rw[if_neg (by simp[hsz];omega),hz]
   exact r1
theorem qoq{w:World}:∀(fs:List Field) (l:List (Nat×Bool×Nat)),fs.length=l.length->(∀i off a n,nth l i=some (off,a,n)->∃fl,fs[i]?=some fl/\fl.offset=off/\qb6 P fl.type a n) ->
  (fs.mapM fun f=>do pure (f.offset,<- sizeOf f.type):Sem (List (Nat×Nat))).run P w=.ok (l.map fun q=>(q.1,q.2.2)) w
 |[],[],_,_=>by simp
 |f::fs,(off,a,n)::l,hl,h=>by
  obtain⟨fl,h1,h2,h3⟩:=h 0 off a n rfl;simp only[List.getElem?_cons_zero,Option.some.injEq]at h1;subst h1;have ih:=qoq (w:=w) fs l (by simpa using hl) (fun i off a n hn=>by
   obtain⟨fl,q1,q2⟩:=h (i+1) off a n hn;exact⟨fl,by simpa using q1,q2⟩)
  simp only[List.mapM_cons,Sem.run_bind,qhs (P:=P) (t:=f.type) w,Result.andThen_ok,Sem.run_pure,ih,h2,zjl]
theorem qt5{α:Type}:∀(l:List α) (i:Nat),nth l i=l[i]?
 |[],i=>by simp[nth]
 |a::l,0=>rfl
 |a::l,i+1=>by simp only[nth,qt5 l i];simp
theorem qut[T:Tys P][X:TyX P]{s:ESt}{t:TypeId}{A:Array (Nat×Operand)}{K:EV->Option ρ}{res:ρ}(h:qq3 P s.eval t A.toList K=some res) :
  ∃u,(∀d ty,QV P ⟨d,.build t A,ty,none⟩ (toV s.heap.len u) (qbf s))/\K u=some res:=by
 unfold qq3 at h;split at h
 ·rename_i n z hn hz;obtain⟨fs,hu,hsz,hlen⟩:=(X.ok t).nf n hn;have hzero:=(T.ok t).zero z hz;have hfld:∀i off a m,nth (Tys.c P t).fields i=some (off,a,m)->∃fl,fs.toList[i]?=some fl/\fl.offset=off/\qb6 P fl.type a m:=fun i off a m hi=>by
   obtain⟨⟨fs',fl,q1,q2,q3,q4⟩,_⟩:=(T.ok t).fld i off a m hi;rw[hu]at q1;injection q1 with q1;injection q1 with q1;subst q1;exact⟨fl,by rw[zkf];exact q2,q3,q4⟩
  obtain⟨c',k1,k2⟩:=qqu (place:=fun i=>((Tys.c P t).fields.map fun q=>(q.1,q.2.2))[i]?) (fun i off a m hi=>by rw[qt5]at hi;simp[hi]) A.toList _ _ h
  refine⟨_,fun d ty E M F a w r=>?_,k1⟩;obtain⟨cs',r1,r2⟩:=k2 E M F a w r z.cells ⟨by simp,fun j hj=>by
   have hj:j<z.cells.size:=by simpa using hj
   refine⟨z.cells[j],zjt hj,zk8.1 hzero.c _ (Array.getElem_mem hj),?_⟩;rw[qdn,zi5];simp only[zkc,zkf,zjt hj,zko,zjv,qdg];exact V.qh2 _ _ _ _ _⟩
  have hp:=qoq (P:=P) (w:=w) fs.toList (Tys.c P t).fields (by simp[hsz,hlen]) hfld;have hp2:(fs.mapM fun f=>do pure (f.offset,<- sizeOf f.type):Sem (Array (Nat×Nat))).run P w=.ok ((Tys.c P t).fields.map fun q=>(q.1,q.2.2)).toArray w:=by
   rw[Array.mapM_eq_mapM_toList];rw[Sem.run_map];exact(congrArg (fun r=>Result.andThen r _) hp).trans rfl
  refine⟨.agg cs',?_,cs',rfl,r2.sz,r2.get⟩;have hr1:Instr.fill (fun i=>((Tys.c P t).fields.map fun q=>(q.1,q.2.2)).toArray[i]?) z.cells ((A.map fun p=>(p.1,a.eval p.2)).toList)=some cs':=by
   rw[<- r1];simp
  simp only[execOp,GOp.oper,Instr.build,Sem.run_bind,qiw (P:=P) (t:=t) (v:=z),Result.andThen_ok,qal hu,hp2];simp only[hr1,Sem.run_pure,Result.andThen_ok]
 ·rename_i z hn hz;split at h
  ·rename_i n q hb;obtain⟨e,i,hu,-,h1,hi,-,-⟩:=qw5 ((X.ok t).ba n q hb);have hzero:=(T.ok t).zero z hz;obtain⟨c',k1,k2⟩:=qqu (place:=fun j=>some (j*P.cellsOf e,P.cellsOf e)) (fun j off a m hj=>by
    rw[qt5]at hj;simp only[zkc]at hj;cases hr:(List.range n)[j]? with
    |none=>rw[hr]at hj;cases hj
    |some x=>
     rw[hr]at hj;obtain⟨hl,hx⟩:=zk5.1 hr;simp only[zk0]at hx;simp only[zko,Option.some.injEq,Prod.mk.injEq]at hj;rw[h1];simp[<- hj.1,<- hj.2.2,hx]) A.toList _ _ h
   refine⟨_,fun d ty E M F a w r=>?_,k1⟩;obtain⟨cs',r1,r2⟩:=k2 E M F a w r z.cells ⟨by simp,fun j hj=>by
    have hj:j<z.cells.size:=by simpa using hj
    refine⟨z.cells[j],zjt hj,zk8.1 hzero.c _ (Array.getElem_mem hj),?_⟩;rw[qdn,zi5];simp only[zkc,zkf,zjt hj,zko,zjv,qdg];exact V.qh2 _ _ _ _ _⟩
   refine⟨.agg cs',?_,cs',rfl,r2.sz,r2.get⟩;have hr1:Instr.fill (fun j=>some (j*P.cellsOf e,P.cellsOf e)) z.cells ((A.map fun p=>(p.1,a.eval p.2)).toList)=some cs':=by
    rw[<- r1];simp
   simp only[execOp,GOp.oper,Instr.build,Sem.run_bind,qiw (P:=P) (t:=t) (v:=z),Result.andThen_ok,qal hu,run_sizeOf w hi];simp only[hr1,Sem.run_pure,Result.andThen_ok]
  ·cases h
 ·cases h
def eqE:TypeDesc->EV->EV->Option Bool
 |.int q,.i k m,.i k' n=>bif qdy k q&&qdy k' q then some (decide (m=n))else none
 |.bool,.b a,.b b=>some (a==b)
 |.string,.s a,.s b=>some (a.toList==b.toList)
 |_,_,_=>none
def zas:List TypeDesc->List EV->List EV->(Bool->Option ρ)->Option ρ
 |[],[],[],K=>K true
 |[x],[a],[b],K=>match eqE x a b with
  |some r=>K r
  |none=>none
 |x::q,a::l,b::m,K=>match eqE x a b with
  |some r=>zas q l m fun q=>K (r&&q)
  |none=>none
 |_,_,_,_=>none
def q6o(P:Program)[Tys P][TyX P](neg:Bool)(t:TypeId)(u v:EV)(K:EV->Option ρ):Option ρ:=match(TyX.x P t).eq with
 |some q=>qt1 u fun l=>qt1 v fun m=>zas q l m fun r=>K (.b (bif neg then !r else r))
 |none=>match(TyX.x P t).ba with
  |some (n,q)=>qt1 u fun l=>qt1 v fun m=>zas (List.replicate n q) l m fun r=>K (.b (bif neg then !r else r))
  |none=>none
def eqV:List TypeDesc->List EV->List EV->Option Bool
 |[],[],[]=>some true
 |x::q,a::l,b::m=>match eqE x a b,eqV q l m with
  |some r,some q=>some (r&&q)
  |_,_=>none
 |_,_,_=>none
theorem q2o:∀(q:List TypeDesc) (l m:List EV) (K:Bool->Option ρ) (res:ρ),zas q l m K=some res->∃r,eqV q l m=some r/\K r=some res:=by
 intro q
 induction q with
 |nil=>
  intro l m K res h
  cases l<;>cases m<;>first|exact⟨true,rfl,h⟩|cases h
 |cons x q ih=>
  intro l m K res h;cases l with
  |nil=>cases q<;>cases m<;>cases h
  |cons a l=>
   cases m with
   |nil=>cases q<;>cases l<;>cases h
   |cons b m=>
    cases he:eqE x a b with
    |none=>cases q<;>cases l<;>cases m<;>simp only[zas,he]at h<;>cases h
    |some r=>
     have gen:zas q l m (fun q=>K (r&&q))=some res->∃r,eqV (x::q) (a::l) (b::m)=some r/\K r=some res:=fun h=>by
      obtain⟨q',h1,h2⟩:=ih l m _ res h;exact⟨r&&q',by simp only[eqV,he,h1],h2⟩
     cases q<;>cases l<;>cases m<;>simp only[zas,he]at h<;>first|exact gen h|(cases h;done)|exact⟨r,by simp[eqV,he],h⟩
theorem qlg{t:TypeId}{x:TypeDesc}(h:qrq (P.underlying t) x=true){cs:Array Value}{k:Nat}{c:Value}(hc:cs[k]?=some c)(w:World):(part t cs k).run P w=.ok c w:=by
 have hu:=qvm h;have:(isAgg t).run P w=.ok false w:=by
  unfold isAgg;rw[Sem.run_bind,qal hu];rw[hu]at h
  cases x<;>first|(cases h;done)|rfl
 simp only[part,Sem.run_bind,this,Result.andThen_ok,hc];rfl
theorem qo6{t:TypeId}{td:TypeDesc}(h:qrq (P.underlying t) td=true){dp:Nat}{H:qbh}{M:Id->Option Nat}{F:Nat->Prop}{w:World}{len:Len}{a b:EV}{r:Bool}(he:eqE td a b=some r){x y:Value}(hx:qa0 H M F w (toV len a) x)(hy:qa0 H M F w (toV len b) y) :
  (Op.equalIn (dp+1) t x y).run P w=.ok r w:=by
 have hu:=qvm h;unfold eqE at he;split at he
 ·rename_i q k m k' n;have hh:=qah he;clear he;obtain⟨hb,he⟩:=hh;simp only[zi4]at hb;have h1:=qc6 hb.1;have h2:=qc6 hb.2;subst h1;subst h2;injection he with he;have hx:x=.int k' m:=hx;have hy:y=.int k' n:=hy;subst hx;subst hy;rw[run_equalIn_int w dp t k' k' m n hu,<- he];rw[Bool.beq_eq_decide_eq]
 ·injection he with he;have hx:x=.bool _:=hx;have hy:y=.bool _:=hy;subst hx;subst hy;rw[run_equalIn_bool' w dp t _ _ hu,<- he]
 ·injection he with he;have hx:=hx.1;have hy:=hy.1;subst hx;subst hy;rw[run_equalIn_string w dp t _ _ hu,<- he]
 ·cases he
theorem qku{dp:Nat}{H:qbh}{M:Id->Option Nat}{F:Nat->Prop}{w:World}{len:Len}{xs ys:Array Value}:∀(fs:List Field) (q:List TypeDesc) (l m:List EV) (k:Nat) (r:Bool),zfp P fs q k=true->eqV q l m=some r ->
  (∀j,j<l.length->∃c,xs[k+j]?=some c/\qa0 H M F w (qa4 len l j) c)->(∀j,j<m.length->∃c,ys[k+j]?=some c/\qa0 H M F w (qa4 len m j) c) ->
  (Op.eqFields (dp+1) xs ys fs).run P w=.ok r w
 |[],[],l,m,k,r,h,he,hx,hy=>by
  cases l<;>cases m<;>simp only[eqV]at he<;>first|(cases he;done)|(injection he with he;subst he;simp[Op.eqFields])
 |[],_::_,l,m,k,r,h,he,hx,hy=>by cases h
 |_::_,[],l,m,k,r,h,he,hx,hy=>by cases h
 |f::fs,x::q,l,m,k,r,h,he,hx,hy=>by
  cases l with
  |nil=>cases m<;>cases he
  |cons a l=>
   cases m with
   |nil=>cases he
   |cons b m=>
    simp only[zfp,zi4,zjo]at h;obtain⟨h1,h2,h3,h4⟩:=h;have h2:=zi6 h2;simp only[eqV]at he;cases e1:eqE x a b with
    |none=>rw[e1]at he;cases he
    |some r1=>
     cases e2:eqV q l m with
     |none=>rw[e1,e2]at he;cases he
     |some r2=>
      rw[e1,e2]at he;injection he with he;obtain⟨c,c1,c2⟩:=hx 0 (by simp);obtain⟨c',c1',c2'⟩:=hy 0 (by simp);have ih:=qku fs q l m (k+1) r2 h4 e2 (fun j hj=>by
        obtain⟨c,a1,a2⟩:=hx (j+1) (by simpa using hj);exact⟨c,by rw[show k+1+j=k+(j+1)by omega];exact a1,by simpa only[qa4]using a2⟩) (fun j hj=>by
        obtain⟨c,a1,a2⟩:=hy (j+1) (by simpa using hj);exact⟨c,by rw[show k+1+j=k+(j+1)by omega];exact a1,by simpa only[qa4]using a2⟩) (dp:=dp)
      have hn : f.name ≠ "_" := by simpa using h1
      have p1:=qlg (P:=P) h3 (cs:=xs) (k:=f.offset) (c:=c) (by rw[h2];exact c1) w
      have p2:=qlg (P:=P) h3 (cs:=ys) (k:=f.offset) (c:=c') (by rw[h2];exact c1') w
      have p3:=qo6 (P:=P) h3 (dp:=dp) e1 (by simpa only[qa4]using c2) (by simpa only[qa4]using c2');simp only[Op.eqFields,if_pos hn,Sem.run_bind,p1,p2,p3,Result.andThen_ok];subst he;cases r1
      ·simp
      ·simpa using ih
theorem qnd{dp:Nat}{H:qbh}{M:Id->Option Nat}{F:Nat->Prop}{w:World}{len:Len}{xs ys:Array Value}{e:TypeId}{q:TypeDesc}(hq:qrq (P.underlying e) q=true):∀(n:Nat) (l m:List EV) (k:Nat) (r:Bool),eqV (List.replicate n q) l m=some r ->
  (∀j,j<l.length->∃c,xs[k+j]?=some c/\qa0 H M F w (qa4 len l j) c)->(∀j,j<m.length->∃c,ys[k+j]?=some c/\qa0 H M F w (qa4 len m j) c) ->
  (Op.eqItems (dp+1) e 1 xs ys (List.range' k n)).run P w=.ok r w
 |0,l,m,k,r,he,hx,hy=>by
  simp only[List.replicate]at he
  cases l<;>cases m<;>simp only[eqV]at he<;>first|(cases he;done)|(injection he with he;subst he;simp[Op.eqItems])
 |n+1,l,m,k,r,he,hx,hy=>by
  simp only[List.replicate_succ]at he;cases l with
  |nil=>cases m<;>cases he
  |cons a l=>
   cases m with
   |nil=>cases he
   |cons b m=>
    simp only[eqV]at he;cases e1:eqE q a b with
    |none=>rw[e1]at he;cases he
    |some r1=>
     cases e2:eqV (List.replicate n q) l m with
     |none=>rw[e1,e2]at he;cases he
     |some r2=>
      rw[e1,e2]at he;injection he with he;obtain⟨c,c1,c2⟩:=hx 0 (by simp);obtain⟨c',c1',c2'⟩:=hy 0 (by simp);have ih:=qnd hq n l m (k+1) r2 e2 (fun j hj=>by
        obtain⟨c,a1,a2⟩:=hx (j+1) (by simpa using hj);exact⟨c,by rw[show k+1+j=k+(j+1)by omega];exact a1,by simpa only[qa4]using a2⟩) (fun j hj=>by
        obtain⟨c,a1,a2⟩:=hy (j+1) (by simpa using hj);exact⟨c,by rw[show k+1+j=k+(j+1)by omega];exact a1,by simpa only[qa4]using a2⟩) (dp:=dp)
      have p1:=qlg (P:=P) hq (cs:=xs) (k:=k*1) (c:=c) (by rw[Nat.mul_one];exact c1) w
      have p2:=qlg (P:=P) hq (cs:=ys) (k:=k*1) (c:=c') (by rw[Nat.mul_one];exact c1') w
      have p3:=qo6 (P:=P) hq (dp:=dp) e1 (by simpa only[qa4]using c2) (by simpa only[qa4]using c2');simp only[List.range'_succ,Op.eqItems,Sem.run_bind,p1,p2,p3,Result.andThen_ok];subst he;cases r1
      ·simp
      ·simpa using ih
theorem qwu[T:Tys P][X:TyX P]{s:ESt}{neg:Bool}{o:BinOp}(ho:o=if neg=true then .neq else .eql){t tY:TypeId}{x y:Operand}{K:EV->Option ρ}{res:ρ}(hx:(s.eval x).isStr=true)(hy:(s.eval y).isStr=true)(h:q6o P neg t (s.eval x) (s.eval y) K=some res) :
  ∃u,(∀d ty,QV P ⟨d,.binOp o t x y tY,ty,none⟩ (toV s.heap.len u) (qbf s))/\K u=some res:=by
 unfold q6o at h;split at h
 ·rename_i q hq;have hk:=(X.ok t).eq q hq;obtain⟨l,h,hl⟩:=qi9 h;obtain⟨m,h,hm⟩:=qi9 h;obtain⟨r,hr,h⟩:=q2o _ _ _ _ _ h;refine⟨_,fun d ty E M F a w rr=>?_,h⟩;have hvx:qa0 (toH s.heap) M F w (toV s.heap.len (s.eval x)) (a.eval x):=s.qdt x _ _ _ _ _ (rr.eval x);have hvy:qa0 (toH s.heap) M F w (toV s.heap.len (s.eval y)) (a.eval y):=s.qdt y _ _ _ _ _ (rr.eval y);have cx:=hl _ _ _ _ _ _ hvx;have cy:=hm _ _ _ _ _ _ hvy;have agg:∀(u:EV) (v:Value),u.isStr=true->qa0 (toH s.heap) M F w (toV s.heap.len u) v->∃cs,v=.agg cs:=fun u v hu hv=>by
   cases u<;>first|(cases hu;done)|(obtain⟨cs,e,_⟩:=hv;exact⟨cs,e⟩)
  obtain⟨xs,ex⟩:=agg _ _ hx hvx;obtain⟨ys,ey⟩:=agg _ _ hy hvy;rw[ex]at cx;rw[ey]at cy;unfold eqTy at hk;split at hk
  ·rename_i fs hu;simp only[zi4,zjo]at hk;obtain⟨k1,k2,k3⟩:=hk;have hf:P.fieldsOf t=fs:=by simp[Program.fieldsOf,hu]
   have he:(Op.equalIn 10000 t (.agg xs) (.agg ys)).run P w=.ok r w:=by
    rw[run_equalIn_struct (P:=P) w 9999 t xs ys (by rw[hf];exact hu) k1,hf]
    exact qku (dp:=9998) fs.toList q l m 0 r k3 hr (fun j hj=>by obtain⟨c,a1,a2,a3⟩:=cx.get j hj;exact⟨c,by rw[zjf];exact a1,a3⟩) (fun j hj=>by obtain⟨c,a1,a2,a3⟩:=cy.get j hj;exact⟨c,by rw[zjf];exact a1,a3⟩)
   have hg:=fun o=>run_eqGuard_agg (P:=P) w o t x y xs ys k2;cases neg with
   |false=>
    subst ho;refine⟨.bool r,?_,rfl⟩;simp only[execOp,GOp.oper,ex,ey,Sem.run_bind,hg,Result.andThen_ok,zjw,if_false,run_eql_struct,he,Sem.run_pure]
   |true=>
    subst ho;refine⟨.bool (!r),?_,rfl⟩;simp only[execOp,GOp.oper,ex,ey,Sem.run_bind,hg,Result.andThen_ok,if_true,run_neq_struct,he,Sem.run_pure]
  ·cases hk
 ·split at h
  ·rename_i n q hb;obtain⟨e,i,hu,hq,hc1,hi,h1,k2⟩:=qw5 ((X.ok t).ba n q hb);obtain⟨l,h,hl⟩:=qi9 h;obtain⟨m,h,hm⟩:=qi9 h;obtain⟨r,hr,h⟩:=q2o _ _ _ _ _ h;refine⟨_,fun d ty E M F a w rr=>?_,h⟩;have hvx:qa0 (toH s.heap) M F w (toV s.heap.len (s.eval x)) (a.eval x):=s.qdt x _ _ _ _ _ (rr.eval x);have hvy:qa0 (toH s.heap) M F w (toV s.heap.len (s.eval y)) (a.eval y):=s.qdt y _ _ _ _ _ (rr.eval y);have cx:=hl _ _ _ _ _ _ hvx;have cy:=hm _ _ _ _ _ _ hvy;have agg:∀(u:EV) (v:Value),u.isStr=true->qa0 (toH s.heap) M F w (toV s.heap.len u) v->∃cs,v=.agg cs:=fun u v hu hv=>by
    cases u<;>first|(cases hu;done)|(obtain⟨cs,e,_⟩:=hv;exact⟨cs,e⟩)
   obtain⟨xs,ex⟩:=agg _ _ hx hvx;obtain⟨ys,ey⟩:=agg _ _ hy hvy;rw[ex]at cx;rw[ey]at cy;have he:(Op.equalIn 10000 t (.agg xs) (.agg ys)).run P w=.ok r w:=by
    rw[run_equalIn_array (P:=P) w 9999 xs ys hu hi,hc1,List.range_eq_range'];exact qnd (dp:=9998) hq n l m 0 r hr (fun j hj=>by obtain⟨c,a1,a2,a3⟩:=cx.get j hj;exact⟨c,by rw[zjf];exact a1,a3⟩) (fun j hj=>by obtain⟨c,a1,a2,a3⟩:=cy.get j hj;exact⟨c,by rw[zjf];exact a1,a3⟩)
   have hg:=fun o=>run_eqGuard_agg (P:=P) w o t x y xs ys k2;cases neg with
   |false=>
    subst ho;refine⟨.bool r,?_,rfl⟩;simp only[execOp,GOp.oper,ex,ey,Sem.run_bind,hg,Result.andThen_ok,zjw,if_false,run_eql_struct,he,Sem.run_pure]
   |true=>
    subst ho;refine⟨.bool (!r),?_,rfl⟩;simp only[execOp,GOp.oper,ex,ey,Sem.run_bind,hg,Result.andThen_ok,if_true,run_neq_struct,he,Sem.run_pure]
  ·cases h
def qzz(P:Program)[Tys P](ev:Operand->EV)(H:qad)(t:TypeId)(x:Operand)(lo hi mx:Option Operand)(K:EV->Option ρ):Option ρ:=none
theorem qzy[T:Tys P]{s:ESt}{t:TypeId}{x:Operand}{lo hi mx:Option Operand}{K:EV->Option ρ}{res:ρ}(h:qzz P s.eval s.heap t x lo hi mx K=some res) :
  ∃u,(∀d ty,QV P ⟨d,.slice t x lo hi mx,ty,none⟩ (toV s.heap.len u) (qbf s))/\K u=some res:=by unfold qzz at h;cases h
end
end
end Go.Abs
namespace Go.Abs
open Go
noncomputable section
variable {P:Program} {d:Option Tmp} {ty:TypeId} {L:List GOp} {ρ:Type}
section
variable [SU] [qa3] {Q:Exit->ESt->Prop}
def qij{α:Type}(g:qb1->Option α)(k:qb1)(y:α):qb1->Option α:=fun q=>if q=k then some y else g q
def zbr:(U:Ty)->U.D->EV
 |.bool,x=>.b x
 |.int k,x=>.i k x
 |.str,x=>.s x
 |.sl e,x=>.fz e x
 |_,_=>.un
def zOk:Ty->Value->Bool
 |.bool,.bool false=>true
 |.int k,.int k' 0=>qdy k k'
 |.str,.string s=>Nat.beq s.size 0
 |.sl _,.slice none 0 0=>true
 |_,_=>false
theorem zb4{U:Ty}{z:Value}(h:zOk U z=true)(len:Len):Wk (V.ofValue z) (toV len (zbr U U.z)):=by
 unfold zOk at h;split at h
 ·exact Wk.refl _
 ·have:=qc6 h;subst this;exact Wk.refl _
 ·rename_i s;have h0:=zi6 h;have:s=ByteArray.empty:=by
   cases s with
   |mk a=>
    have:a.size=0:=h0;have:a=#[]:=Array.eq_empty_of_size_eq_zero this;rw[this];rfl
  subst this;exact Wk.refl _
 ·exact Wk.qb7 _ _
 ·cases h
theorem q5b{U:Ty}{z:Value}(h:zOk U z=true)(len:Len)(y:U.D):toV len (zbr U y)=.t (qkg U y 0):=by
 cases U<;>simp[zOk]at h<;>simp only[zbr,toV,qkg]<;>rfl
def zfm(s:Bool):EV->Option qb1
 |.i k n=>match s,k with
  |false,.i64=>some (.i n)
  |_,_=>none
 |.s b=>match s with
  |true=>some (.s b)
  |false=>none
 |_=>none
theorem q1q{s:ESt}{x:Operand}{sk:Bool}{k:qb1}(h:zfm sk (s.eval x)=some k):k.isS=sk/\∀E M F a w,Rel E M F (qbf s) a w->a.eval x=k.val:=by
 unfold zfm at h;split at h
 ·rename_i kk n hx;have hx:=eval_eq hx rfl;split at h
  ·injection h with h;subst h;exact⟨rfl,fun E M F a w r=>qb4 r hx⟩
  ·cases h
 ·rename_i b hx;have hx:=eval_eq hx rfl;split at h
  ·injection h with h;subst h;refine⟨rfl,fun E M F a w r=>?_⟩;have:=r.eval x;rw[hx]at this;exact this.1
  ·cases h
 ·cases h
def zad(P:Program)[Tys P][TyX P](ev:Operand->EV)(H:qad)(t:TypeId)(x y:Operand)(ok:Bool)(K:EV->Option ρ):Option ρ:=match(TyX.x P t).mp with
 |some (sk,e,_)=>match(Tys.c P e).zero with
  |some z=>match ev x with
   |.qca id=>match H.obj id with
    | .mp sm U g=>bif zOk U z then(match zfm sm (ev y)with
     |some k=>bif(sm==sk)then(bif ok then K (.tup [zbr U ((g k).getD U.z),.b (g k).isSome])else K (zbr U ((g k).getD U.z)))else none
     | none=>none)else none
    |_=>none
   |_=>none
  |none=>none
 |none=>none
theorem qvf{H:qad}{id:Nat}{s:Bool}{U:Ty}{g:qb1->Option U.D}(h:H.obj id=.mp s U g):(toH H).slot ⟨id,[]⟩=.mp s (fun x=>match g x with
  |some y=>some (.t (qkg U y 0))
  | none=>none):=by
 show(H.obj id).slot _ _ _=_;rw[h];rfl
theorem q53[T:Tys P][X:TyX P]{s:ESt}{t:TypeId}{x y:Operand}{ok:Bool}{K:EV->Option ρ}{res:ρ}(h:zad P s.eval s.heap t x y ok K=some res) :
  ∃u,(∀d ty,QV P ⟨d,.lookup t x y ok,ty,none⟩ (toV s.heap.len u) (qbf s))/\K u=some res:=by
 unfold zad at h;split at h
 ·rename_i sk e τ0 hm;have ht:=(X.ok t).mp _ _ _ hm;split at h
  ·rename_i z hz;have hzz:=(T.ok e).zero _ hz;split at h
   ·rename_i id hx;have hx:=eval_eq hx rfl;split at h
    ·rename_i sm U g ho;have hh:=qah h;clear h;obtain⟨hzo,h⟩:=hh;split at h
     ·rename_i k hk;have hh:=qah h;clear h;obtain⟨hs,h⟩:=hh;have hs:sm=sk:=by simpa using hs
      subst hs;obtain⟨k1,k2⟩:=q1q hk;have hsl:=qvf ho;have hsl':(qbf s).heap.slot ⟨id,[]⟩=_:=hsl;have hl:∀d ty,_:=fun d ty=>O.lookup (d:=d) (ty:=ty) ht (zv:=z) hx hsl' k1 k2;have hw:Wk ((match g k with
        |some y=>some (V.t (qkg U y 0))
        | none=>none).getD (V.ofValue z)) (toV s.heap.len (zbr U ((g k).getD U.z))):=by
       cases hg:g k with
       |none=>exact zb4 hzo _
       |some y=>simp only[zjv];rw[q5b hzo];exact Wk.refl _
      cases ok with
      |false=>
       exact⟨_,fun d ty=>(hl d ty).1.wk hw,h⟩
      |true=>
       refine⟨_,fun d ty=>(hl d ty).2.wk ?_,h⟩;simp only[toV,zi9,zji];intro H M F w c ⟨cs,q1,q2,q3⟩;refine⟨cs,q1,q2,fun j hj=>?_⟩;obtain⟨c,w1,w2⟩:=q3 j hj
       match j,hj with
       |0,_=>exact⟨c,w1,by simp only[qa4];exact hw _ _ _ _ _ w2⟩
       |1,_=>
        refine⟨c,w1,?_⟩;simp only[qa4,toV];have w2:c=.bool _:=w2;show c=.bool _;rw[w2];cases g k<;>rfl
     ·cases h
    ·cases h
   ·cases h
  ·cases h
 ·cases h
theorem qx1{t n e s:Nat}[h:qu4 P t n e s]{w:World}{b o:Nat}{k:IntKind}{i:Nat}(h1:i<n) :
  (Instr.indexAt t (.pointer (some ⟨b,o,none⟩)) (.int k (Int.ofNat i))).run P w=.ok (.pointer (some ⟨b,o+i*s,none⟩)) w:=by
 have hs:=h.s;have hsz:(sizeOf e).run P w=.ok s w:=by
  cases hq:P.info? e with
  |none=>simp[hq]at hs
  |some i=>simp[hq]at hs;simp[sizeOf,typeInfo,hq,hs]
 simp[Instr.indexAt,asIntOf,qal h.d,Instr.sureAddr,h1,hsz,qgq]
theorem O.zeb{st:St}{t n e s:Nat}[qu4 P t n e s]{x y:Operand}{id:Id}{ver rr c:Nat}{o:qc1}{k:IntKind}{i:Nat}(hx:st.eval x=.ptr id ver rr c)(ho:st.heap.slot id=.live o)(hv:ver=o.ver)(hy:st.eval y=.t (.int k (Int.ofNat i)))(hi:i<n) :
  QV P ⟨d,.indexAddr t x y,ty,none⟩ (.ptr id ver rr (c+i*s)) st:=
 fun E M F a w r=>by
  obtain⟨b,hb,he⟩:=qgi r hx ho hv;refine⟨_,by simp only[execOp,GOp.oper,he,qb4 r hy,Sem.run_bind,qx1 (P:=P) (t:=t) hi,Result.andThen_ok];rfl,rfl,?_⟩
  rw[ho];exact⟨by omega,fun _=>⟨b,hb,by rw[Nat.add_assoc]⟩⟩
def zft(K:Nat->Option ρ)(m:Int):Nat->Nat->Option ρ
 |0,_=>none
 |n+1,k=>bif decide (m=Int.ofNat k)then K k else zft K m n (k+1)
theorem qw6{K:Nat->Option ρ}{m:Int}{res:ρ}:∀ {n k:Nat},zft K m n k=some res->∃i,m=Int.ofNat i/\i<k+n/\K i=some res
 |0,_,h=>by cases h
 |n+1,k,h=>by
  unfold zft at h;cases hb:decide (m=Int.ofNat k)with
  |true=>rw[hb]at h;exact⟨k,of_decide_eq_true hb,by omega,h⟩
  |false=>
   rw[hb]at h;obtain⟨i,h1,h2,h3⟩:=qw6 (n:=n) h;exact⟨i,h1,by omega,h3⟩
def zhn(P:Program)[Tys P][TyX P](H:qad)(t:TypeId)(a i:EV)(K:EV->Option ρ):Option ρ:=match(TyX.x P t).ar with
 |some (n,sz)=>match i with
  |.i _ m=>match a with
   |.ptr id p r c=>bif H.is id p then zft (fun i=>qxv (c+i*sz) fun c'=>K (.ptr id p r c')) m n 0 else none
   |_=>none
  |_=>none
 |none=>none
theorem zbi[T:Tys P][X:TyX P]{s:ESt}{t:TypeId}{x y:Operand}{K:EV->Option ρ}{res:ρ}(h:zhn P s.heap t (s.eval x) (s.eval y) K=some res):∃u,(∀d ty,QV P ⟨d,.indexAddr t x y,ty,none⟩ (toV s.heap.len u) (qbf s))/\K u=some res:=by
 unfold zhn at h;split at h
 ·rename_i n sz har;obtain⟨e,har⟩:=(X.ok t).ar n sz har;split at h
  ·rename_i k m hy;have hy:=eval_eq hy rfl;simp only[toV]at hy;split at h
   ·rename_i id p r c hx;have hx:=eval_eq hx rfl;simp only[toV]at hx;have hh:=qah h;clear h;obtain⟨h2,h⟩:=hh;obtain⟨o,ho,hv⟩:=qad.qo0 h2;obtain⟨i,rfl,h1,h⟩:=qw6 h;rw[qfp]at h;exact⟨_,fun d ty=>(by simp only[toV];exact O.zeb (e:=e) hx ho hv.symm hy (by omega)),h⟩
   ·cases h
  ·cases h
 ·cases h
def q7v(P:Program)[Tys P][TyX P](ev:Operand->EV)(H:qad)(op:Op)(K:EV->Option ρ):Option ρ:=match op with
 |.makeFunc fn first caps=>match fn,first.toList with
  |.func f,[]=>fnE f ev caps.toList [] K
  |_,_=>none
 |.build t A=>qq3 P ev t A.toList K
 |.lookup t x y ok=>zad P ev H t x y ok K
 |.slice t x lo hi mx=>qzz P ev H t x lo hi mx K
 |.indexAddr t x y=>bif(TyX.x P t).ar.isSome then zhn P H t (ev x) (ev y) K else zdn P ev H (.indexAddr t x y) K
 | .binOp o t x y tY=>bif(ev x).isStr&&(ev y).isStr then(match o with
  |.eql=>q6o P false t (ev x) (ev y) K
  |.neq=>q6o P true t (ev x) (ev y) K
  | _=>none)else zdn P ev H (.binOp o t x y tY) K
 |op=>zdn P ev H op K
where
 fnE (f:FuncId) (ev:Operand->EV):List Operand->List EV->(EV->Option ρ)->Option ρ
 |[],us,K=>K (.fn f us.reverse)
 |x::l,us,K=>fE (ev x) fun u=>fnE f ev l (u::us) K
theorem q8f(f:FuncId)(ev:Operand->EV)(K:EV->Option ρ):∀(l:List Operand) (us:List EV),q7v.fnE f ev l us K=K (.fn f (us.reverse++l.map ev))
 |[],us=>by simp[q7v.fnE]
 |x::l,us=>by simp only[q7v.fnE];rw[qke,q8f f ev K l];simp
theorem qtq[T:Tys P][X:TyX P]{s:ESt}{op:Op}{K:EV->Option ρ}{res:ρ}(h:q7v P s.eval s.heap op K=some res):∃u,(∀d ty,QV P ⟨d,op,ty,none⟩ (toV s.heap.len u) (qbf s))/\K u=some res:=by
 unfold q7v at h;split at h
 ·rename_i fn first caps
  split at h
  ·rename_i f hf;rw[q8f]at h;refine⟨_,fun d ty=>?_,h⟩
   have:first=#[]:=by cases first;simp_all
   subst this;refine(O.makeFunc (f:=f) (caps:=caps) (st:=qbf s)).wk ?_;simp only[toV,List.reverse_nil,zj8,zje,zkz];intro H M F w c ⟨cs,q1,q2,q3⟩;refine⟨cs,q1,q2,fun j hj=>?_⟩;obtain⟨c,w1,w2⟩:=q3 j hj;refine⟨c,w1,?_⟩;rw[qdn];have e:(List.map s.eval caps.toList).getD j .un=s.eval (caps.getD j (.func 0)):=by
    simp[zi5,hj,Array.getD]
   rw[e];exact s.qdt _ _ _ _ _ _ w2
  ·cases h
 ·exact qut h
 ·exact q53 h
 ·exact qzy h
 ·rename_i t x y;rcases Bool.eq_false_or_eq_true (TyX.x P t).ar.isSome with hb|hb
  ·rw[hb]at h;exact zbi h
  ·rw[hb]at h;exact qtt h
 ·rename_i o t x y tY;rcases Bool.eq_false_or_eq_true ((s.eval x).isStr&&(s.eval y).isStr)with hb|hb
  ·rw[hb]at h;simp only[zi4]at hb;simp only[cond_true]at h;split at h
   ·exact qwu (neg:=false) rfl hb.1 hb.2 h
   ·exact qwu (neg:=true) rfl hb.1 hb.2 h
   ·cases h
  ·rw[hb]at h;exact qtt h
 ·exact qtt h
def qqa(P:Program)[Tys P][TyX P](t:TypeId)(K:OD->Option ρ):Option ρ:=match(TyX.x P t).mp with
 |some (sk,_,U)=>K (.mp sk U (fun _=>none))
 |none=>none
theorem qyx{s:ESt}{sk:Bool}{U:Ty}(hf:Fair s)(d:Option Tmp) :
  qgy (((qbf s).on ((qbf s).heap.zbn sk (fun _=>none))).put d (.qca ⟨s.heap.next,[]⟩)) (qbf ((s.on (s.heap.add s.heap.next (.mp sk U (fun _=>none)))).put d (.qca s.heap.next))):=by
 have hsl:∀i:Id,((qbf s).heap.zbn sk (fun _=>none)).slot i=if i=⟨s.heap.next,[]⟩then .mp sk (fun _=>none)else(toH s.heap).slot i:=fun i=>by
  show(bif Id.beq i ⟨s.heap.next,[]⟩then _ else _)=_;exact qeh _ _ _ _
 have hnew:∀p,(toH (s.heap.add s.heap.next (.mp sk U (fun _=>none)))).slot ⟨s.heap.next,p⟩=(OD.mp sk U (fun _=>none)).slot (s.heap.add s.heap.next (.mp sk U (fun _=>none))).len s.heap.next p:=fun p=>by
  show((s.heap.add s.heap.next (.mp sk U (fun _=>none))).obj s.heap.next).slot _ _ _=_;simp only[qad.add,zjg,cond_true]
 refine qg1 hf s.heap.next (fun k' hk=>by simp only[qad.add,qav hk,cond_false]) (fun id p hb=>?_) (fun i hi=>?_) rfl (fun hn i hi=>?_) (fun p hne=>?_) (fun p o' hl=>?_) (fun p sb g' hl=>?_) d (fun _=>by simp only[toV];exact Wk.refl _)
 ·have:id≠s.heap.next:=fun e=>hb (hf.next ⟨id,p⟩ (by rw[e];exact zi7 _))
  exact qad.qhg (qad.qtb this) p
 ·rw[hsl,if_neg (fun e=>hi (by rw[e]))]
 ·have hi:s.heap.next+1<=i.k:=hi;have hne:i.k≠s.heap.next:=by omega
  have:=hf.next i (by omega);have h':(s.heap.obj i.k).slot s.heap.len i.k i.p=.qae:=this;show((s.heap.add s.heap.next (.mp sk U (fun _=>none))).obj i.k).slot _ _ _=.qae;simp only[qad.add,qav hne,cond_false];exact(qft (len:=s.heap.len)).2.2 h'
 ·rw[hsl]at hne ⊢;by_cases hp:p=[]
  ·subst hp;rw[if_pos rfl,hnew];trivial
  ·rw[if_neg (fun e=>hp (by injection e))]at hne;exact absurd (hf.next ⟨s.heap.next,p⟩ (zi7 _)) hne
 ·rw[hnew]at hl;cases p<;>cases hl
 ·rw[hnew]at hl;rw[hsl];cases p with
  |nil=>rw[if_pos rfl];exact hl
  |cons x y=>cases hl
theorem qt9[T:Tys P][X:TyX P]{s:ESt}{t:TypeId}{K:ESt->Option ρ}{res:ρ}(hK:∀s',K s'=some res->SLT P L Q s')
  (h:qqa P t (fun o=>qxv s.heap.next fun id=>K ((s.on (s.heap.add id o)).put d (.qca id)))=some res):SLT P (⟨d,.makeMap t none,ty,none⟩::L) Q s:=by
 refine⟨SL.fair fun hf=>?_⟩;unfold qqa at h;split at h
 ·rename_i sk e U hm;simp only[qfp]at h;exact SL.makeMap (SL.weak (qyx hf d) (hK _ h).out)
 ·cases h
def zfx(P:Program)[Tys P][TyX P](s:ESt)(d:Option Tmp)(t:TypeId)(x y z:Operand)(K:ESt->Option ρ):Option ρ:=match(TyX.x P t).mp with
 |some (sk,_,_)=>match s.eval x with
  |.qca id=>match s.heap.obj id with
   | .mp sm U g=>bif qkb U&&(Nat.beq U.sz 1&&(sm==sk))then(match zfm sm (s.eval y)with
    |some k=>match qxj U U.z 0 (s.eval z)with
     |some v=>K ((s.on (s.heap.set id (.mp sm U (qij g k v)))).put d .un)
     |none=>none
    | none=>none)else none
   |_=>none
  |_=>none
 |none=>none
theorem qyw{s:ESt}{sk:Bool}{U:Ty}{id:Nat}{g g':qb1->Option U.D}{G:qb1->Option V}(hf:Fair s)(ho:s.heap.obj id=.mp sk U g) (hG:G=fun x=>match g' x with
  |some y=>some (.t (qkg U y 0))
  | none=>none) (d:Option Tmp) :
  qgy (((qbf s).on ((qbf s).heap.zdk ⟨id,[]⟩ sk G)).put d .un) (qbf ((s.on (s.heap.set id (.mp sk U g'))).put d .un)):=by
 subst hG;have hlen:∀j p,(s.heap.set id (.mp sk U g')).len j p=s.heap.len j p:=fun j p=>by
  by_cases hj:j=id
  ·subst hj;unfold qad.len;simp only[qad.set,zjg,cond_true];rw[ho];rfl
  ·exact qad.qhg (qad.qi2 hj) p
 have hs1:∀i:Id,((qbf s).heap.zdk ⟨id,[]⟩ sk (fun x=>match g' x with
  |some y=>some (.t (qkg U y 0))
  | none=>none)).slot i=if i=⟨id,[]⟩then .mp sk (fun x=>match g' x with
  |some y=>some (.t (qkg U y 0))
  | none=>none)else(toH s.heap).slot i:=fun i=>by
  show(bif Id.beq i ⟨id,[]⟩then _ else _)=_;exact qeh _ _ _ _
 have hsn:∀p,(toH (s.heap.set id (.mp sk U g'))).slot ⟨id,p⟩=(OD.mp sk U g').slot (s.heap.set id (.mp sk U g')).len id p:=fun p=>by
  show((s.heap.set id (.mp sk U g')).obj id).slot _ _ _=_;simp only[qad.set,zjg,cond_true]
 have hun:∀x y,(toH s.heap).slot ⟨id,x::y⟩=.qae:=fun x y=>by
  show(s.heap.obj id).slot _ _ _=_;rw[ho];rfl
 refine qg1 hf id (fun k' hk=>qad.qi2 hk) (fun j q _=>hlen j q) (fun i hi=>by rw[hs1,if_neg (fun e=>hi (by rw[e]))]) rfl (fun hn i hi=>?_) (fun p hne=>?_) (fun p o' hl'=>?_) (fun p sb g' hl'=>?_) d (fun _=>by simp only[toV];exact Wk.refl _)
 ·by_cases hi2:i.k=id
  ·obtain⟨j,p⟩:=i;simp only at hi2;subst hi2;have:=hn ⟨j,p⟩ hi;rw[hs1]at this;rw[hsn];split at this
   ·cases this
   ·rename_i hne;cases p with
    |nil=>exact absurd rfl hne
    |cons x y=>rfl
  ·have:=hf.next i hi;have h':(s.heap.obj i.k).slot s.heap.len i.k i.p=.qae:=this;show((s.heap.set id (.mp sk U g')).obj i.k).slot _ _ _=.qae;rw[qad.qi2 hi2];exact(qft (len:=s.heap.len)).2.2 h'
 ·rw[hs1]at hne ⊢;cases p with
  |nil=>rw[if_pos rfl,hsn];trivial
  |cons x y=>rw[if_neg (fun e=>by injection e with _ e;cases e)]at hne;exact absurd (hun x y) hne
 ·rw[hsn]at hl';cases p<;>cases hl'
 ·rw[hsn]at hl';rw[hs1];cases p with
  |nil=>rw[if_pos rfl];exact hl'
  |cons x y=>cases hl'
theorem q8v[T:Tys P][X:TyX P]{s:ESt}{t:TypeId}{x y z:Operand}{K:ESt->Option ρ}{res:ρ}(hK:∀s',K s'=some res->SLT P L Q s')
  (h:zfx P s d t x y z K=some res):SLT P (⟨d,.mapUpdate t x y z,ty,none⟩::L) Q s:=by
 refine⟨SL.fair fun hf=>?_⟩;unfold zfx at h;split at h
 ·rename_i sk e τ0 hm;have ht:=(X.ok t).mp _ _ _ hm;split at h
  ·rename_i id hx;have hx:=eval_eq hx rfl;split at h
   ·rename_i sm U g ho;have hh:=qah h;clear h;obtain⟨hb,h⟩:=hh;simp only[zi4]at hb;obtain⟨b1,b2,b3⟩:=hb;have b2:=zi6 b2;have b3:sm=sk:=by simpa using b3
    subst b3;split at h
    ·rename_i k hk;split at h
     ·rename_i v hv;obtain⟨k1,k2⟩:=q1q hk;obtain⟨_,⟨u,hu,hw⟩,_⟩:=ql7 _ _ _ _ _ hv;obtain⟨u',hu',he⟩:=qd3 U v 0 b1;rw[hu]at hu';injection hu' with hu';subst hu';have he:=he (by omega) s.heap.len;have hsl':(qbf s).heap.slot ⟨id,[]⟩=_:=qvf ho;refine SL.mapUpdate (u:=.t (qkg U v 0)) ht hx hsl' k1 k2 (fun E M F a w r=>?_) (SL.weak (qyw (g:=g) (g':=qij g k v) hf ho ?_ d) (hK _ h).out)
      ·have:=hw s.heap.len _ _ _ _ _ (s.qdt z _ _ _ _ _ (r.eval z));rw[he]at this;exact this
      ·funext q;unfold q9k qij;by_cases hq:q=k
       ·rw[if_pos hq,if_pos hq]
       ·rw[if_neg hq,if_neg hq]
     ·cases h
    ·cases h
   ·cases h
  ·cases h
 ·cases h
end
end
end Go.Abs
namespace Go.Abs
open Go
noncomputable section
variable {P:Program} {d:Option Tmp} {ty:TypeId} {L:List GOp} {ρ:Type}
section
variable [SU] [qa3] {Q:Exit->St->Prop} {st:St}
theorem q2n{t e:TypeId}{sz by_:Nat}[ht:qb0 P t e sz by_](dp:Nat)(A:Option Addr)(n cap:Nat)(w:World):(Op.equalIn (dp+1) t (.slice A n cap) (.slice none 0 0)).run P w=.ok A.isNone w:=by
 simp only[Op.equalIn,Sem.run_bind,qal ht.d,Result.andThen_ok];cases A<;>rfl
theorem SL.zdx{t e:TypeId}{sz by_:Nat}[ht:qb0 P t e sz by_]{x:Operand}{o:BinOp}{tY:TypeId}{neg:Bool}(hop:o=if neg=true then .neq else .eql){emp:Prop}
  (hx:∀E M F a w,Rel E M F st a w->∃A n cap,a.eval x=.slice A n cap/\(A=none->emp))
  (hk0:SL P L Q (st.put d (.t (.bool neg)))) (hk1:emp->SL P L Q (st.put d (.t (.bool !neg)))) :
  SL P (⟨d,.binOp o t x (.const (.slice none 0 0)) tY,ty,none⟩::L) Q st:=
 SL.value rfl fun E M F a w r=>by
  obtain⟨A,n,cap,e1,e2⟩:=hx E M F a w r;have heq:(Op.equal t (.slice A n cap) (.slice none 0 0)).run P w=.ok A.isNone w:=q2n 9999 A n cap w;have ec:a.eval (.const (.slice none 0 0))=.slice none 0 0:=rfl;have hg:∀o',(eqGuard o' t x (.const (.slice none 0 0)) (.slice A n cap) (.slice none 0 0)).run P w=.ok () w:=fun o'=>by
   unfold eqGuard;cases o'<;>rfl
  have hex:(execOp a.eval (GOp.oper ⟨d,.binOp o t x (.const (.slice none 0 0)) tY,ty,none⟩)).run P w=.ok (.value (.bool (if neg=true then !A.isNone else A.isNone))) w:=by
   cases neg with
   |false=>
    subst hop;simp only[execOp,GOp.oper,e1,ec,zjw,if_false,Sem.run_bind,hg,Result.andThen_ok,binOp,heq,Sem.run_pure]
   |true=>
    subst hop;simp only[execOp,GOp.oper,e1,ec,if_true,Sem.run_bind,hg,Result.andThen_ok,binOp,heq,Sem.run_pure]
  cases A with
  |none=>
   refine⟨_,w,M,F,st.heap,.t (.bool !neg),hex,r.h,Ext.refl _ _ _ _,?_,hk1 (e2 rfl)⟩;cases neg<;>rfl
  |some ad=>
   refine⟨_,w,M,F,st.heap,.t (.bool neg),hex,r.h,Ext.refl _ _ _ _,?_,hk0⟩;cases neg<;>rfl
theorem SL.bytes{src dst e:TypeId}(hs:P.underlying src=some .string)(hd:P.underlying dst=some (.slice e))(he:P.underlying e=some (.int .u8)){x:Operand}{b:ByteArray}(hx:st.eval x=.t (.str b))(hb:b.size<=LEN)
  (hk:SL P L Q (st.put d (.t (.sl 1 b.size (fun i _=>.int .u8 ((b.data.getD i 0).toNat:Nat)))))) :
  SL P (⟨d,.convert src dst x,ty,none⟩::L) Q st:=
 SL.value rfl fun E M F a w r=>by
  have hr:=r.eval x;rw[hx]at hr;have hr:=hr.1;have key:∃cap cells m w',b.size<=cap/\(Conv.stringToBytes e b).run P w=.ok (.slice (some ⟨w.heap.size,0,none⟩) b.size cap) w'/\w'.os=w.os/\w'.tape=w.tape/\w'.output=w.output/\w'.heap.size=w.heap.size+1 /\
    (∀k,k<w.heap.size->w'.heap[k]?=w.heap[k]?)/\w'.heap[w.heap.size]?=some (.cells cells e m)/\∀i,i<b.size->cells[i]?=some (.int .u8 ((b.data.getD i 0).toNat:Nat)):=by
   have hforced:(Question.appendCap b.size 0 e).forced=false:=by rfl
   have hcap:b.size<=(Question.appendCap b.size 0 e).cut (w.tape w.drawn (.appendCap b.size 0 e)):=Nat.le_add_right _ _;generalize hq:(Question.appendCap b.size 0 e).cut (w.tape w.drawn (.appendCap b.size 0 e))=cap at hcap;generalize hc:(b.data.map fun x=>Value.int .u8 (x.toNat:Nat))++Array.replicate (cap-b.size) (.int .u8 0)=cells;have hsz:(w.drew.alloc (.cells cells e)).heap[w.heap.size]?=some (.cells cells e (0,0)):=(MapKept.heap_alloc w.drew _).1;have hlt:w.heap.size<(w.drew.alloc (.cells cells e)).heap.size:=(zkl.1 hsz).1;refine⟨cap,cells,(cells.size,cells.size+1),(w.drew.alloc (.cells cells e)).freeze ⟨w.heap.size,cells.size,none⟩ 1,hcap,?_,rfl,rfl,rfl,?_,fun k hk=>?_,?_,fun i hi=>?_⟩
   ·simp only[Conv.stringToBytes,Sem.run_bind,run_choose_drew,hforced,zjw,if_false,Result.andThen_ok,newRow,run_newObj_alloc,Sem.run_pure,markStringish,run_shape,hq,hc];have:(w.drew.alloc (.cells cells e)).shape? w.drew.heap.size=some (e,cells.size):=by
     show(match(w.drew.alloc (.cells cells e)).heap[w.heap.size]? with
      |some (.cells c elem _)=>some (elem,c.size)
      | _=>none)=_
     rw[hsz]
    simp only[this,Sem.run_bind,run_freeze,Result.andThen_ok,Sem.run_pure];rfl
   ·show((w.heap.push _).modify _ _).size=_;simp
   ·show((w.heap.push _).modify _ _)[k]?=_;rw[Array.getElem?_modify,if_neg (by show ¬ w.heap.size=k;omega),Array.getElem?_push_lt hk]
    exact(zjt hk).symm
   ·show((w.heap.push _).modify _ _)[w.heap.size]?=_;rw[Array.getElem?_modify,if_pos rfl];have:(w.heap.push (Obj.cells cells e (0,0)))[w.heap.size]?=some (.cells cells e (0,0)):=by simp
    exact(congrArg (Option.map _) this).trans rfl
   ·subst hc;have hi':i<b.data.size:=hi;rw[zlb (by simpa using hi')];rw[Array.getElem?_map,zjt hi',zko];rw[zjr,zjt hi',zjv]
  obtain⟨cap,cells,m,w',hcap,hrun,k1,k2,k3,k4,k5,k6,k7⟩:=key;obtain⟨g1,g2⟩:=r.h.grow (F':=fun k=>F k\/k=w.heap.size) k1 k2 k3 (by omega) k5 (fun k h=>.inl h) (fun k h=>by rcases h with h|h;exact .inl h;exact .inr (by omega)) (fun k h=>by rcases h with h|h;(have:=r.h.qny k h;omega);omega)
  refine⟨.slice (some ⟨w.heap.size,0,none⟩) b.size cap,w',M,_,st.heap,_,?_,g1,g2,?_,hk⟩
  ·simp only[execOp,GOp.oper,convert,hr,Sem.run_bind,qal hs,qal hd,qal he,Result.andThen_ok,hrun,Sem.run_pure]
  ·refine⟨_,cap,rfl,hcap,hb,fun hn=>⟨w.heap.size,0,rfl,.inr rfl,fun i hi j hj=>⟨_,?_,rfl⟩⟩⟩;have:j=0:=by omega
   subst this;simp only[World.cell?,k6];simpa using k7 i hi
end
section
variable [SU] [qa3] {Q:Exit->ESt->Prop}
def qeg(b:ByteArray):List Int:=b.data.toList.map fun x=>(x.toNat:Int)
theorem qpf(b:ByteArray):(qeg b).length=b.size:=by simp[qeg]
def q28(P:Program)[Tys P](s:ESt)(d:Option Tmp)(src dst:TypeId)(x:Operand)(K:ESt->Option ρ):Option ρ:=match(Tys.c P src).desc,(Tys.c P dst).sl,s.eval x with
 |some .string,some (e,_,_),.s b=>match(Tys.c P e).desc with
  |some (.int .u8)=>grd (okB (b.size<=281474976710656)) (K (s.put d (.fz (.int .u8) (qeg b))))
  |_=>none
 |_,_,_=>none
theorem q27[T:Tys P]{s:ESt}{src dst:TypeId}{x:Operand}{K:ESt->Option ρ}{res:ρ}(hK:∀s',K s'=some res->SLT P L Q s')(h:q28 P s d src dst x K=some res):SLT P (⟨d,.convert src dst x,ty,none⟩::L) Q s:=by
 refine⟨?_⟩;unfold q28 at h;split at h
 ·rename_i e sz by_ b h1 h2 hx;have t1:=(T.ok src).desc _ h1;have t2:=(T.ok dst).sl _ _ _ h2;split at h
  ·rename_i h3;have t3:=(T.ok e).desc _ h3;obtain⟨hp,h⟩:=qbs h;have hp:=qdo hp;have hx:=eval_eq hx rfl;refine SL.bytes t1.d t2.d t3.d hx hp ?_;have:=(hK _ h).out;rw[qay]at this;have e:toV s.heap.len (.fz (.int .u8) (qeg b))=.t (.sl 1 b.size (fun i _=>.int .u8 ((b.data.getD i 0).toNat:Nat))):=by
    simp only[toV,qyq];have e1:(qeg b).length=b.size:=qpf b;show V.t (.sl 1 (qeg b).length (fun r c=>.int .u8 ((qeg b).getD r 0)))=_;rw[e1];congr 2;funext i _;congr 1;simp only[qeg,zi5,zkc,zkf,zjr];cases b.data[i]?<;>rfl
   rw[e]at this;exact this
  ·cases h
 ·cases h
def zgv(s:ESt)(o:BinOp)(x y:Operand):Option (Bool×Prop):=match y with
 |.const (.slice none 0 0)=>match(match o with | .eql=>some false | .neq=>some true|_=>none)with
  |some neg=>match s.eval x with
   |.fz _ l=>some (neg,l=[])
   |.qa7 id p=>match s.heap.at id p with
    |some v=>some (neg,v.l=[])
    |none=>none
   |_=>none
  |none=>none
 |_=>none
def zh5(s:ESt)(d:Option Tmp)(neg:Bool)(emp:Prop)(K:ESt->Option ρ):Option ρ:=
 grd (okB (emp->K (s.put d (.b (!neg)))=K (s.put d (.b neg)))) (K (s.put d (.b neg)))
def q1v(P:Program)[Tys P](t:TypeId):Bool:=match(Tys.c P t).sl with
 |some _=>true
 |none=>false
theorem q9s[T:Tys P]{s:ESt}{o:BinOp}{t tY:TypeId}{x y:Operand}{neg:Bool}{emp:Prop}{K:ESt->Option ρ}{res:ρ}(hK:∀s',K s'=some res->SLT P L Q s')(hq:zgv s o x y=some (neg,emp))(ht:q1v P t=true)
  (h:zh5 s d neg emp K=some res):SLT P (⟨d,.binOp o t x y tY,ty,none⟩::L) Q s:=by
 refine⟨?_⟩;obtain⟨hp,h⟩:=qbs h;have hp:=qdo hp;unfold q1v at ht;split at ht
 rotate_left
 ·cases ht
 rename_i q hsl;obtain⟨e,sz,by_⟩:=q;have t2:=(T.ok t).sl _ _ _ hsl;unfold zgv at hq;split at hq
 ·split at hq
  ·rename_i neg' hneg;have hop:∀b,neg'=b->o=if b=true then .neq else .eql:=fun b hb=>by
    subst hb
    split at hneg<;>first|(injection hneg with hneg;subst hneg;rfl)|cases hneg
   have k0:K (s.put d (.b neg))=some res:=h;have done:(∀E M F a w,Rel E M F (qbf s) a w->∃A n cap,a.eval x=.slice A n cap/\(A=none->emp))->neg'=neg->SL P (⟨d,.binOp o t x (.const (.slice none 0 0)) tY,ty,none⟩::L) (qe9 Q) (qbf s):=fun hx hn=>by
    refine SL.zdx (e:=e) (sz:=sz) (by_:=by_) (neg:=neg) (hop _ hn) hx ?_ (fun he=>?_)
    ·have:=(hK _ k0).out;rw[qay]at this;exact this
    ·have:=(hK _ ((hp he).trans k0)).out;rw[qay]at this;exact this
   split at hq
   ·rename_i U l hx;injection hq with hq;injection hq with q1 q2;have hx:=eval_eq hx rfl;refine done (fun E M F a w r=>?_) q1;have hr:=r.eval x;rw[hx]at hr;simp only[toV,qyq]at hr;obtain⟨A,cap,e1,e2,e3,e4⟩:=hr;refine⟨A,_,cap,e1,fun hA=>?_⟩;rw[<- q2];cases l with
    |nil=>rfl
    |cons a l=>
     obtain⟨b,o,q,_⟩:=e4 (by simp);rw[hA]at q;cases q
   ·rename_i id p hx;split at hq
    ·rename_i v hv;injection hq with hq;injection hq with q1 q2;have hx:=eval_eq hx rfl;refine done (fun E M F a w r=>?_) q1;have hr:=r.eval x;rw[hx]at hr;simp only[toV,qad.qf0 hv]at hr;obtain⟨_,hr⟩:=hr;have hs':(qbf s).heap.slot ⟨id,p⟩=.live (v.obj s.heap.len id p):=qb2 hv;rw[hs']at hr;obtain⟨_,hr⟩:=hr;obtain⟨hn,A,cap,e1,e2,e3⟩:=hr rfl;refine⟨A,_,cap,e1,fun hA=>?_⟩;rw[<- q2];cases hl:v.l with
     |nil=>rfl
     |cons a l=>
      obtain⟨b,cur,_,q,_⟩:=e3 (by rw[hl]at e2;simp at e2;omega)
      rw[hA]at q;cases q
    ·cases hq
   ·cases hq
  ·cases hq
 ·cases hq
def qzo(P:Program)[Tys P](s:ESt)(d:Option Tmp)(t:TypeId)(x y:Operand)(K:ESt->Option ρ):Option ρ:=none
theorem qzn[T:Tys P]{s:ESt}{t:TypeId}{x y:Operand}{K:ESt->Option ρ}{res:ρ}(hK:∀s',K s'=some res->SLT P L Q s')(h:qzo P s d t x y K=some res):SLT P (⟨d,.slice t x none (some y) none,ty,none⟩::L) Q s:=by unfold qzo at h;cases h
end
end
end Go.Abs
namespace Go.Abs
open Go
noncomputable section
variable {P:Program} {d:Option Tmp} {ty:TypeId} {L:List GOp} {ρ:Type}
section
variable [SU] [qa3] {Q:Exit->ESt->Prop}
def q8e:(U:Ty)->U.D->Nat->Option U.D
 |.st i,x,c=>qa3.zan i x c
 |_,_,_=>none
theorem q13:∀(U:Ty) (x:U.D) (c:Nat) (y:U.D),q8e U x c=some y->qao U y c=.ev .un/\∀c',c'≠c->qao U y c'=qao U x c'
 |.st i,x,c,y,h=>qa3.qwo i x c y h
 |.bool,_,_,_,h=>by cases h
 |.int _,_,_,_,h=>by cases h
 |.str,_,_,_,h=>by cases h
 |.sl _,_,_,_,h=>by cases h
 |.ol _ _,_,_,_,h=>by cases h
def tkM(id k:Nat)(P:List Nat):Id->Option Id:=fun i=>if i.k=k then some ⟨id,P++i.p⟩else if i.k=id/\P <+: i.p then none else some i
def zd0(P:Program)[Tys P][TyE P](s:ESt)(d:Option Tmp)(t:Nat)(x y:Operand)(K:ESt->Option ρ)(no:Option ρ):Option ρ:=no
theorem q5v[T:Tys P][TE:TyE P]{s:ESt}{t:Nat}{x y:Operand}{K:ESt->Option ρ}{no:Option ρ}{res:ρ}(hK:∀s',K s'=some res->SLT P L Q s')
  (hno:no=some res->SLT P (⟨d,.makeSlice t x y,ty,none⟩::L) Q s) (h:zd0 P s d t x y K no=some res):SLT P (⟨d,.makeSlice t x y,ty,none⟩::L) Q s:=hno h
def q58:List Nat->Option (List Nat×Nat×Nat)
 |[c,r]=>some ([],c,r)
 |c::r::p=>match q58 p with
  |some (q,c',r')=>some (c::r::q,c',r')
  |none=>none
 |_=>none
theorem qwg:∀(l p:List Nat) (c r:Nat),q58 l=some (p,c,r)->l=p++[c,r]
 |[],_,_,_,h=>by cases h
 |[_],_,_,_,h=>by cases h
 |[c,r],p,c',r',h=>by injection h with h;injection h with h1 h2;injection h2 with h2 h3;subst h1;subst h2;subst h3;rfl
 |c::r::a::b,p,c',r',h=>by
  have h:(match q58 (a::b)with
   |some (q,c',r')=>some (c::r::q,c',r')
   | none=>none)=some (p,c',r'):=h
  split at h
  ·rename_i q c2 r2 hq;injection h with h;injection h with h1 h2;injection h2 with h2 h3;subst h1;subst h2;subst h3;have:=qwg (a::b) q c2 r2 hq;rw[this];rfl
  ·cases h
def zde(s:ESt)(x:Operand)(K:ESt->Option ρ):Option ρ:=K s
theorem qzr{s:ESt}{x:Operand}{K:ESt->Option ρ}{res:ρ}(h:zde s x K=some res):∃s',(Fair s->qbz s s')/\K s'=some res:=⟨s,fun _=>qbz.refl s,h⟩
end
end
end Go.Abs
namespace Go.Abs
open Go
noncomputable section
variable {P:Program} {d:Option Tmp} {ty:TypeId} {L:List GOp} {ρ:Type}
variable {st:St} {Q:Exit->St->Prop}
section
variable [SU] [qa3] {Q:Exit->ESt->Prop}
def q20(P:Program)[Tys P][TyE P](s:ESt)(d:Option Tmp)(t:Nat)(x:Operand)(K:ESt->Option ρ):Option ρ:=none
theorem q2z[T:Tys P][TE:TyE P]{s:ESt}{t:Nat}{x:Operand}{K:ESt->Option ρ}{res:ρ}(hK:∀s',K s'=some res->SLT P L Q s')(h:q20 P s d t x K=some res) :
  SLT P (⟨d,.call { callee:=.builtin .clear,args:=#[x],argTypes:=#[t] },ty,none⟩::L) Q s:=by unfold q20 at h;cases h
end
end
end Go.Abs
namespace Go.Abs
noncomputable section
variable {P:Program} {d:Option Tmp} {ty:TypeId} {L:List GOp} {ρ:Type}
section
variable [SU] [qa3] {Q:Exit->ESt->Prop}
def qyr(id k c:Nat):Nat->List Nat->Option EV:=fun j q=>bif Nat.beq j k then some .un else(bif Nat.beq j id then(match q with
 |[]=>none
 | c'::_=>bif Nat.beq c' c then some .un else none)else none)
theorem q2x{id k c j:Nat}{q:List Nat}{u:EV}(h:qyr id k c j q=some u):u=.un:=by
 unfold qyr at h;cases hb:Nat.beq j k with
 |true=>rw[hb]at h;injection h with h;exact h.symm
 |false=>
  rw[hb]at h;cases hc:Nat.beq j id with
  |false=>rw[hc]at h;cases h
  |true=>
   rw[hc]at h;cases q with
   |nil=>cases h
   |cons c' q=>
    simp only[cond_true,cond_false]at h;cases hd:Nat.beq c' c with
    |true=>rw[hd]at h;injection h with h;exact h.symm
    |false=>rw[hd]at h;cases h
theorem q2y{id k c j r:Nat}{q:List Nat}(h:qyr id k c j q=none):j≠k/\¬ (j=id/\([]++[c,r]:List Nat) <+: q):=by
 unfold qyr at h;cases hb:Nat.beq j k with
 |true=>rw[hb]at h;cases h
 |false=>
  have n1:j≠k:=fun e=>by subst e;simp at hb
  refine⟨n1,?_⟩
  rintro⟨e,z,rfl⟩
  subst e;rw[hb]at h;simp at h
theorem zav{id k c j:Nat}{q:List Nat}(h1:j≠id)(h2:j≠k):qyr id k c j q=none:=by
 unfold qyr;rw[qav h2,qav h1];rfl
theorem q6r{id k c:Nat}(h:id≠k):qyr id k c id []=none:=by
 unfold qyr;rw[qav h,zjg];rfl
def qad.qnz(H:qad)(id k c:Nat)(root' w:LV):qad:=
 { H with next:=k+1,obj:=fun j=>bif Nat.beq j id then .lst root' else bif Nat.beq j k then .lst w else qbv (qyr id k c) (H.obj j) }
def ESt.qnz(s:ESt)(id k c:Nat)(root' w:LV)(tx:Tmp)(al:List EV)(ai:Nat):ESt:=
 { s with env:=fun t=>bif Nat.beq t tx then .agg (qte (qbx (qyr id k c) al) ai (.qa7 k []))else qbb (qyr id k c) (s.env t),heap:=s.heap.qnz id k c root' w }
theorem qbz.qnz{s:ESt}{id:Nat}{root root' w:LV}{r c:Nat}{y:root.U.D}{tx:Tmp}{al:List EV}{ai:Nat}(hik:id<s.heap.next)(ho:s.heap.obj id=.lst root)(hr:r<root.l.length)
  (hc:c<root.U.sz) (hw:qao root.U (root.row r) c=.own w.e w.U w.l) (hy1:qao root.U y c=.ev .un) (hy2:∀c',c'≠c->qao root.U y c'=qao root.U (root.row r) c') (hp:root'=root.setRow r y) (htx:s.env tx=.agg al) (hal:qdj al ai=.qa7 id [c,r]) (hlt:ai<al.length) :
  qbz s (s.qnz id s.heap.next c root' w tx al ai):=qgy.fair fun hf=>by
 let k:=s.heap.next
 let p:List Nat:=[]
 let v:=root
 have hv:root.at p=some v:=LV.qa8 _;have hp:root.put p (v.setRow r y)=some root':=by rw[hp];exact rfl
 let PP:List Nat:=p++[c,r]
 let m:Id->Option Id:=tkM id k PP
 let f:=qyr id k c
 let H':=s.heap.qnz id k c root' w
 have hne:id≠k:=Nat.ne_of_lt hik;obtain⟨a1,a2,a3,a4⟩:=LV.qvs p root v root' r c y hv hr hy2 hp;have hpe:=LV.qgo p root v hv;have hPP:PP.length=p.length+2:=by simp[PP]
 have eV:root.at PP=some w:=by
  rw[LV.qbu _ _ _ _ hv,LV.at_one];exact LV.qec hw
 have atP:∀q,root.at (PP++q)=w.at q:=fun q=>by rw[LV.qbu _ _ _ _ eV]
 have atN:∀q,root'.at (PP++q)=none:=fun q=>by
  rw[show PP++q=p++([c,r]++q)by simp[PP],LV.qbu _ _ _ _ a1];show LV.at _ (c::r::q)=none;rw[LV.qbr];have:(v.setRow r y).kid c r=none:=by
   have e:(v.setRow r y).row r=y:=by rw[LV.qbw hr,if_pos rfl]
   unfold LV.kid;have e':(v.setRow r y).l.getD r (v.setRow r y).U.z=y:=e;rw[e'];show(match qao v.U y c with
    |.own t e l=>some (LV.mk t e l)
    | .ev _=>none)=none
   rw[hy1]
  rw[this]
 have hobj:∀j,j≠id->j≠k->H'.obj j=qbv f (s.heap.obj j):=fun j e1 e2=>by simp only[H',qad.qnz,qav e1,qav e2,cond_false];rfl
 have hobji:H'.obj id=.lst root':=by simp only[H',qad.qnz,zjg,cond_true]
 have hobjk:H'.obj k=.lst w:=by simp only[H',qad.qnz,qav (fun e=>hne e.symm),cond_false,zjg,cond_true]
 have hsl:∀q,(toH s.heap).slot ⟨id,q⟩=(OD.lst root).slot s.heap.len id q:=fun q=>by show(s.heap.obj id).slot _ _ _=_;rw[ho]
 have hslk:∀q,(toH s.heap).slot ⟨k,q⟩=.qae:=fun q=>hf.next ⟨k,q⟩ (zi7 _);have hsl':∀q,(toH H').slot ⟨id,q⟩=(OD.lst root').slot H'.len id q:=fun q=>by show(H'.obj id).slot _ _ _=_;rw[hobji]
 have hslk':∀q,(toH H').slot ⟨k,q⟩=(OD.lst w).slot H'.len k q:=fun q=>by show(H'.obj k).slot _ _ _=_;rw[hobjk]
 have fn:∀j q,f j q=none->j≠k/\¬ (j=id/\PP <+: q):=fun j q h=>by
  exact q2y h
 have mo:∀j q,j≠id->j≠k->m ⟨j,q⟩=some ⟨j,q⟩:=fun j q e1 e2=>by simp only[m,tkM,if_neg e2,e1,false_and,if_false]
 have mi:∀q,¬ PP <+: q->m ⟨id,q⟩=some ⟨id,q⟩:=fun q e=>by simp only[m,tkM,if_neg hne,e,and_false,if_false]
 have mk:∀q,m ⟨k,q⟩=some ⟨id,PP++q⟩:=fun q=>by simp only[m,tkM,if_true]
 have hkk:qbk f s.heap (toH s.heap) H' m (fun _=>False):=⟨fun j q u h=>by
   have:u=.un:=q2x h;rw[this];simp only[toV];exact KG.un,
  fun j q h hb=>by
   obtain⟨e1,e2⟩:=fn j q h;by_cases hj:j=id
   ·subst hj;have hq:¬ PP <+: q:=fun e=>e2 ⟨rfl,e⟩;refine .inr ⟨?_,mi q hq⟩;rw[hsl',hsl];rw[hsl]at hb;simp only[OD.slot]at hb ⊢;rcases a2 q hq with⟨x1,x2⟩|⟨x,x',x1,x2,x3⟩
    ·rw[x2]at hb;exact absurd rfl hb
    ·rw[x1,x2];exact⟨rfl,x3.e,by show x'.U.sz=x.U.sz;rw[x3.U],x3.n⟩
   ·refine .inr ⟨?_,mo j q hj e1⟩;show qa1 _ ((H'.obj j).slot H'.len j q);rw[hobj j hj e1];exact qb9 hb,
  fun j q h hb=>by
   obtain⟨e1,e2⟩:=fn j q h;by_cases hj:j=id
   ·subst hj;have hq:¬ PP <+: q:=fun e=>e2 ⟨rfl,e⟩;unfold qad.len;rw[hobji,ho];simp only[OD.len];rcases a2 q hq with⟨x1,x2⟩|⟨x,x',x1,x2,x3⟩
    ·rw[x1,x2]
    ·rw[x1,x2];simp only[x3.n]
   ·exact qad.qdx (hobj j hj e1) q⟩
 have fo:∀j,j≠id->j≠k->∀q,f j q=none:=fun j e1 e2 q=>zav e1 e2
 -- cells of the list that moves
 have cellM:∀(q:List Nat) (a:LV),w.at q=some a->∀r' c',r'<a.l.length->KG (toH s.heap) (toH H') m (fun _=>False) (qbg s.heap.len id (PP++q) r' c' (qao a.U (a.row r') c')) (qbg H'.len k q r' c' (qao a.U (a.row r') c')):=fun q a ha r' c' hr'=>by
  cases hx:qao a.U (a.row r') c' with
  |ev u=>exact KG.dat (qbi _ _ _ _ hx)
  |own t e l=>
   simp only[qbg];have e1:(toH s.heap).slot ⟨id,PP++q++[c',r']⟩=.live (LV.obj s.heap.len id (PP++q++[c',r']) ⟨t,e,l⟩):=by
    rw[hsl];exact qcw (by rw[atP];exact ha) hx
   have e2:(toH H').slot ⟨k,q++[c',r']⟩=.live (LV.obj H'.len k (q++[c',r']) ⟨t,e,l⟩):=by
    rw[hslk'];exact qcw ha hx
   refine KG.qbo (o:=LV.obj s.heap.len id (PP++q++[c',r']) ⟨t,e,l⟩) e1 e2 ?_ rfl rfl rfl rfl (by show 0+l.length<=l.length;omega)
   rw[mk];exact congrArg (fun z=>some (Id.mk id z)) (zkr PP q [c',r']).symm
 have idlive:(toH s.heap).slot ⟨id,[]⟩≠.qae:=by rw[hsl];simp only[OD.slot,LV.qa8];intro e;cases e
 -- cells of the lists that stay
 have cellS:∀(q:List Nat) (a a':LV),root.at q=some a->root'.at q=some a'->q.length % 2=0->¬ PP <+: q->∀r' c' (x x':Cell),¬ (q=p/\r'=r/\c'=c)->x=qao a.U (a.row r') c'->x'=qao a'.U (a'.row r') c'->x.Sim x' ->
   KG (toH s.heap) (toH H') m (fun _=>False) (qbg s.heap.len id q r' c' x) (qbg H'.len id q r' c' x'):=fun q a a' ha ha' hqe hnq r' c' x x' hne hx hx' hsim=>by
  cases x with
  |ev u=>
   cases x' with
   |own t e l=>exact hsim.elim
   |ev u'=>
    have:u=u':=hsim;subst this;exact KG.dat (qbi _ _ _ _ hx.symm)
  |own t e l=>
   cases x' with
   |ev u=>exact hsim.elim
   |own t' e' l'=>
    obtain⟨rfl,rfl,hl⟩:=hsim;simp only[qbg];have np:¬ PP <+: q++[c',r']:=fun⟨z,hz⟩=>by
     have hlen:=congrArg List.length hz;simp only[zjh,zi9,zji]at hlen;by_cases hz0:z=[]
     ·subst hz0;rw[zkd]at hz;have h2:p=q/\[c,r]=[c',r']:=List.append_inj' hz rfl;have h3:=h2.2;simp only[List.cons.injEq,and_true]at h3;exact hne ⟨h2.1.symm,h3.2.symm,h3.1.symm⟩
     ·have hzl:z.length≠0:=fun e=>hz0 (zla e);refine hnq (List.prefix_of_prefix_length_le ⟨z,hz⟩ (List.prefix_append q [c',r']) ?_);omega
    rw[hl];have e1:(toH s.heap).slot ⟨id,q++[c',r']⟩=.live (LV.obj s.heap.len id (q++[c',r']) ⟨t,e,l⟩):=by rw[hsl];exact qcw ha hx.symm
    have e2:(toH H').slot ⟨id,q++[c',r']⟩=.live (LV.obj H'.len id (q++[c',r']) ⟨t,e,l'⟩):=by rw[hsl'];exact qcw ha' hx'.symm
    exact KG.qbo (o:=LV.obj s.heap.len id (q++[c',r']) ⟨t,e,l⟩) e1 e2 (mi _ np) rfl rfl rfl rfl (by show 0+l'.length<=l'.length;omega)
 have gen:Gen (toH s.heap) (toH H') m (fun _=>False):=by
  refine Gen.qbb (fun j=>j=id\/j=k) hkk hf.obj (fun j hj=>?_) (fun i hi o' ho'=>?_) (fun i hi sb g' hm=>?_) (fun i j x hi h1' h2' e1 e2=>?_) rfl (fun i hi=>?_) (fun i hi hil hip=>?_)
  ·have e1:j≠id:=fun e=>hj (.inl e);have e2:j≠k:=fun e=>hj (.inr e);exact⟨fo j e1 e2,hobj j e1 e2,fun q=>mo j q e1 e2,fun q h=>h,fun q=>rfl⟩
  ·obtain⟨j,q⟩:=i;by_cases hj:j=id
   ·subst hj;rw[hsl']at ho';simp only[OD.slot]at ho';cases ha':root'.at q with
    |none=>rw[ha']at ho';cases ho'
    |some a'=>
     rw[ha']at ho';injection ho' with ho';subst ho';have hq:¬ PP <+: q:=fun⟨z,hz⟩=>by rw[<- hz,atN]at ha';cases ha'
     rcases a2 q hq with⟨x1,x2⟩|⟨x,x',x1,x2,x3⟩
     ·rw[x1]at ha';cases ha'
     ·have ha2:=ha';rw[x2]at ha';injection ha' with ha';subst ha';refine .inr ⟨⟨j,q⟩,LV.obj s.heap.len j q x,mi q hq,?_,fun h=>h,x3.e,?_,zkp x3.n,fun r' hr' c' hc'=>?_⟩
      ·rw[hsl];simp only[OD.slot,x1]
      ·show x'.U.sz=x.U.sz;rw[x3.U]
      ·by_cases hx:q=p/\r'=r/\c'=c
       ·obtain⟨rfl,rfl,rfl⟩:=hx;rw[a1]at ha2;injection ha2 with ha2;subst ha2;have:qao (v.setRow r' y).U ((v.setRow r' y).row r') c'=.ev .un:=by
         rw[LV.qbw hr,if_pos rfl];exact hy1
        show KG _ _ _ _ _ (qbg H'.len j p r' c' (qao (v.setRow r' y).U ((v.setRow r' y).row r') c'));rw[this];simp only[qbg,toV];exact KG.un
       ·exact cellS q x x' x1 x2 (LV.qgo _ _ _ x1) hq r' c' _ _ hx rfl rfl (x3.c r' c' hx)
   ·have hj2:j=k:=hi.resolve_left hj;subst hj2;rw[hslk']at ho';simp only[OD.slot]at ho';cases ha':w.at q with
    |none=>rw[ha']at ho';cases ho'
    |some a'=>
     rw[ha']at ho';injection ho' with ho';subst ho';refine .inr ⟨⟨id,PP++q⟩,LV.obj s.heap.len id (PP++q) a',mk q,?_,fun h=>h,rfl,rfl,zi7 _,fun r' hr' c' _=>cellM q a' ha' r' c' hr'⟩;rw[hsl];simp only[OD.slot,atP,ha']
  ·obtain⟨j,q⟩:=i;by_cases hj:j=id
   ·subst hj;rw[hsl']at hm;simp only[OD.slot]at hm;cases ha':root'.at q<;>rw[ha']at hm<;>cases hm
   ·have hj2:j=k:=hi.resolve_left hj;subst hj2;rw[hslk']at hm;simp only[OD.slot]at hm;cases ha':w.at q<;>rw[ha']at hm<;>cases hm
  ·obtain⟨j1,q1⟩:=i;obtain⟨j2,q2⟩:=j;have key:∀q y,m ⟨id,q⟩=some y->¬ PP <+: q/\y=⟨id,q⟩:=fun q y e=>by
    by_cases hq:PP <+: q
    ·simp only[m,tkM,if_neg hne,hq,and_self,if_true]at e;cases e
    ·rw[mi q hq]at e;injection e with e;exact⟨hq,e.symm⟩
   by_cases n1:j1=id
   ·subst n1;obtain⟨p1,x1⟩:=key q1 x e1;by_cases n2:j2=j1
    ·subst n2;obtain⟨p2,x2⟩:=key q2 x e2;rw[<- x1,<- x2]
    ·by_cases n3:j2=k
     ·subst n3;rw[mk]at e2;injection e2 with e2;rw[x1]at e2;injection e2 with _ e2;exact absurd ⟨q2,e2⟩ p1
     ·rw[mo j2 q2 n2 n3]at e2;injection e2 with e2;rw[x1]at e2;injection e2 with e2 _;exact absurd e2 n2
   ·have hj:j1=k:=hi.resolve_left n1;subst hj;rw[mk]at e1;injection e1 with e1;by_cases n2:j2=id
    ·subst n2;obtain⟨p2,x2⟩:=key q2 x e2;rw[x2]at e1;injection e1 with _ e1;exact absurd ⟨q1,e1⟩ p2
    ·by_cases n3:j2=k
     ·subst n3;rw[mk]at e2;injection e2 with e2;rw[<- e1]at e2;injection e2 with _ e2;rw[List.append_cancel_left e2]
     ·rw[mo j2 q2 n2 n3]at e2;injection e2 with e2;rw[<- e1]at e2;injection e2 with e2 _;exact absurd e2 n2
  ·have hi:s.heap.next+1<=i.k:=hi;have e1:i.k≠id:=by omega
   have e2:i.k≠k:=by show i.k≠s.heap.next;omega
   show(H'.obj i.k).slot _ _ _=_;rw[hobj _ e1 e2];exact qcs.2 (hf.next i (by omega))
  ·obtain⟨j,q⟩:=i;simp only at hip hil;subst hip;by_cases hj:j=id
   ·subst hj;have fnone:f j []=none:=q6r hne;rcases hkk.slot j [] fnone idlive with h|⟨h,h'⟩
    ·exact .inr (.inl h)
    ·exact .inr (.inr ⟨h',h⟩)
   ·have hj2:j=k:=hi.resolve_left hj;subst hj2;exact .inl (hslk [])
 refine qgy.gen m (fun _=>False) rfl gen (fun t=>?_);show KG (toH s.heap) (toH H') m (fun _=>False) (toV s.heap.len (s.env t)) (toV H'.len (bif Nat.beq t tx then .agg (qte (qbx f al) ai (.qa7 k []))else qbb f (s.env t)));have hbt:=hf.env t;cases ht:Nat.beq t tx with
 |false=>exact qbk.keeps hkk _ hbt
 |true=>
  obtain rfl:=qbj ht;rw[htx]at hbt ⊢;have l1:s.heap.len id PP=some w.l.length:=by
   unfold qad.len;rw[ho];simp only[OD.len,eV]
  have l2:H'.len k []=some w.l.length:=by
   unfold qad.len;rw[hobjk];simp only[OD.len,LV.qa8]
  have e1:(toH s.heap).slot ⟨id,PP⟩=.live (LV.obj s.heap.len id PP w):=by rw[hsl];simp only[OD.slot,eV]
  have e2:(toH H').slot ⟨k,[]⟩=.live (LV.obj H'.len k [] w):=by rw[hslk'];simp only[OD.slot,LV.qa8]
  have em:m ⟨k,[]⟩=some ⟨id,PP⟩:=by rw[mk,zkd]
  have link:KG (toH s.heap) (toH H') m (fun _=>False) (.qbo ⟨id,PP⟩ 0 0 w.l.length) (.qbo ⟨k,[]⟩ 0 0 w.l.length):=KG.qbo e1 e2 em rfl rfl rfl rfl (by show 0+w.l.length<=w.l.length;omega)
  simp only[cond_true,toV,qht,qcg];refine KG.agg fun j hj=>?_;rw[ql6 _ _ _ _ _ (by rw[qcg];exact hj)]
  by_cases hji:j=ai
  ·rw[if_pos hji,hji,<- qez,hal];simp only[toV];rw[show([c,r]:List Nat)=PP from rfl,l1,l2];exact link
  ·rw[if_neg hji];exact qbk.qoz hkk al j (hbt j hj)
def q5s:List EV->Nat->Option (Nat×Nat×Nat×Nat)
 |[],_=>none
 |u::l,i=>match u with
  |.qa7 id [c,r]=>some (i,id,c,r)
  |_=>q5s l (i+1)
theorem qr6:∀ {l:List EV} {n i id c r:Nat},q5s l n=some (i,id,c,r)->n<=i/\i<n+l.length/\qdj l (i-n)=.qa7 id [c,r]
 |[],_,_,_,_,_,h=>by cases h
 |u::l,n,i,id,c,r,h=>by
  unfold q5s at h;split at h
  ·injection h with h;injection h with h1 h;injection h with h2 h;injection h with h3 h4;subst h1;subst h2;subst h3;subst h4;exact⟨zi7 _,by simp,by simp[qdj]⟩
  ·obtain⟨h1,h2,h3⟩:=qr6 (n:=n+1) h;refine⟨by omega,by simp only[zi9];omega,?_⟩
   rw[show i-n=(i-(n+1))+1 by omega];exact h3
def qvd(tx:Tmp):Nat->ESt->(ESt->Option ρ)->Option ρ
 |0,s,K=>K s
 |n+1,s,K=>match s.env tx with
  | .agg al=>(match q5s al 0 with
   | some (ai,id,c,r)=>(match s.heap.obj id with
    | .lst root=>grd (Nat.blt r root.l.length) (bif Nat.blt c root.U.sz then(match qr0 root.U c with
     | some (t,e)=>qaj (qr1 root.U (root.l.getD r root.U.z) c e) fun l=>(match q8e root.U (root.l.getD r root.U.z) c with
      |some y=>qxv s.heap.next fun k=>shO (root.l.set r y) fun l'=>qvd tx n (s.qnz id k c ⟨root.e,root.U,l'⟩ ⟨t,e,l⟩ tx al ai) K
      | none=>none)
     | none=>none)else none)
    | _=>none)
   | none=>K s)
  |_=>K s
theorem qoi{tx:Tmp}{K:ESt->Option ρ}{res:ρ}:∀ {n:Nat} {s:ESt},qvd tx n s K=some res->∃s',qbz s s'/\K s'=some res
 |0,s,h=>⟨s,qbz.refl s,h⟩
 |n+1,s,h=>by
  unfold qvd at h;split at h
  ·rename_i al hx;split at h
   ·rename_i ai id c r hn;obtain⟨_,n2,n3⟩:=qr6 hn;split at h
    ·rename_i root ho;obtain⟨hr,h⟩:=qbs h;have hr:r<root.l.length:=zi8 hr;obtain⟨hc,h⟩:=qah h;have hc:c<root.U.sz:=zi8 hc;split at h
     ·rename_i t e hte;have hh:=qcd h;clear h;obtain⟨l,hl2,h⟩:=hh;split at h
      ·rename_i y hy;rw[qfp,ql3]at h;obtain⟨y1,y2⟩:=q13 _ _ _ _ hy;obtain⟨s',w,hK⟩:=qoi (n:=n) h;refine⟨s',?_,hK⟩;refine qbz.trans (qgy.fair fun hf=>?_) w;have hlive:id<s.heap.next:=Classical.byContradiction fun hn=>by
        have:=hf.next ⟨id,[]⟩ (zj9 hn);have e:(toH s.heap).slot ⟨id,[]⟩=(OD.lst root).slot s.heap.len id []:=by show(s.heap.obj id).slot _ _ _=_;rw[ho]
        rw[e]at this;simp only[OD.slot,LV.qa8]at this;cases this
       exact qbz.qnz (w:=⟨t,e,l⟩) (y:=y) hlive ho hr hc (qlh _ _ _ _ _ _ hte hl2) y1 y2 rfl hx n3 (by omega)
      ·cases h
     ·cases h
    ·cases h
   ·exact⟨s,qbz.refl s,h⟩
  ·exact⟨s,qbz.refl s,h⟩
end
end
end Go.Abs
namespace Go.Abs
noncomputable section
variable {P:Program} {d:Option Tmp} {ty:TypeId} {L:List GOp} {ρ:Type}
section
variable [SU] [qa3] {Q:Exit->ESt->Prop}
theorem qen{n:Nat}:∀ {l:List Nat},qn4 n l=true↔n∈l
 |[]=>by simp[qn4]
 |a::l=>by
  simp only[qn4,zj7,zjx,qen (l:=l)]
  constructor
  ·rintro(h|h)
   ·exact .inl (zi6 h)
   ·exact .inr h
  ·rintro(rfl|h)
   ·exact .inl (zjg _)
   ·exact .inr h
def q9b(ks:List Nat):Nat->List Nat->Option EV:=fun j _=>bif qn4 j ks then some .un else none
theorem qro{ks:List Nat}{j:Nat}{q:List Nat}:q9b ks j q=none↔j∉ks:=by
 unfold q9b;cases h:qn4 j ks with
 |true=>simp[qen.1 h]
 |false=>simp only[cond_false,true_iff];exact fun hm=>by rw[qen.2 hm]at h;cases h
theorem qz3{ks:List Nat}{j:Nat}{q:List Nat}{u:EV}(h:q9b ks j q=some u):u=.un:=by
 unfold q9b at h;cases hb:qn4 j ks<;>rw[hb]at h
 ·cases h
 ·injection h with h;exact h.symm
def qad.qyi(H:qad)(ks:List Nat)(k2 nx:Nat)(v:LV):qad:=
 { next:=nx,lo:=H.lo,md:=H.md,obj:=fun j=>bif Nat.beq j k2 then .lst v else bif qn4 j ks then .dead else qbv (q9b ks) (H.obj j) }
def ESt.qyi(s:ESt)(ks:List Nat)(k2 nx:Nat)(v:LV):ESt:={ s with env:=fun t=>qbb (q9b ks) (s.env t),heap:=s.heap.qyi ks k2 nx v }
structure q8n(s:ESt)(U:Ty)(al:List EV)(y:U.D)(ks:List Nat):Prop where
 cell:∀c,(∃u,qao U y c=.ev u/\(c<U.sz->∀len,Wk (qa4 s.heap.len al c) (toV len u))) \/
  (∃kk w,qdj al c=.qa7 kk []/\kk∈ks/\s.heap.obj kk=.lst w/\qao U y c=.own w.e w.U w.l)\/(U.sz<=c/\∃t e,qao U y c=.own t e [])
 inj:∀c c' kk,qdj al c=.qa7 kk []->qdj al c'=.qa7 kk []->kk∈ks->c=c'
 live:∀kk∈ks,∃w,s.heap.obj kk=.lst w
theorem qja:∀ {l:List EV} {c:Nat},l.length<=c->qdj l c=.un
 |[],_,_=>rfl
 |_::_,0,h=>by simp at h
 |_::l,c+1,h=>qja (l:=l) (by simpa using h)
def zdy(U:Ty)(al:List EV)(y:U.D)(c:Nat):Option Nat:=match qdj al c,qao U y c with
 |.qa7 kk [],.own _ _ _=>some kk
 |_,_=>none
theorem qrb{s:ESt}{H1:qbh}{k k2 nx:Nat}{v1:LV}{y:v1.U.D}{al:List EV}{ks:List Nat}{a1:qc1}{u0:V}
  (hf:Fair s) (hy:q8n s v1.U al y ks) (hal:al.length=v1.U.sz)
  (h1:∀i,H1.slot i=if i=⟨k,[]⟩then .live a1 else(toH s.heap).slot i) (hlo:H1.lo=s.heap.lo)
  (ha1:v1.e=a1.elem) (ha2:v1.U.sz=a1.sz) (ha3:v1.l.length+1=a1.n)
  (hget1:∀r,r<v1.l.length->∀c,c<a1.sz->Wk (a1.get r c) (qbg s.heap.len k [] r c (qao v1.U (v1.row r) c)))
  (hget2:∀c,c<a1.sz->Wk (a1.get v1.l.length c) (qa4 s.heap.len al c))
  (hold:∀c r q,r<v1.l.length->(toH s.heap).slot ⟨k,c::r::q⟩=(OD.lst v1).slot s.heap.len k (c::r::q))
  (hk2:k2=k\/∀p,(toH s.heap).slot ⟨k2,p⟩=.qae) (hnx:s.heap.next<=nx) (hnk:k<nx) (hnk2:k2<nx) (hlk:s.heap.lo<=k2)
  (hkks:k∉ks) (hk2ks:k2∉ks) (d:Option Tmp) (hu:d≠none->Wk u0 (.qbo ⟨k,[]⟩ a1.ver 0 a1.n)) :
  qgy (((qbf s).on H1).put d u0) (qbf ((s.qyi (k::ks) k2 nx ⟨v1.e,v1.U,v1.l++[y]⟩).put d (.qa7 k2 []))):=by
 let n1:=v1.l.length
 let v:LV:=⟨v1.e,v1.U,v1.l++[y]⟩
 let f:=q9b (k::ks)
 let g:=zdy v1.U al y
 let m:Id->Option Id:=fun i=>if i.k=k2 then(match i.p with
  |[]=>some ⟨k,[]⟩
  | c::r::q=>if r<n1 then some ⟨k,c::r::q⟩else if r=n1 then(match g c with
   |some kk=>some ⟨kk,q⟩
   | none=>none)else none
  | _=>none)else if i.k∈k::ks then none else some i
 let H':=s.heap.qyi (k::ks) k2 nx v
 have vn:v.l.length=n1+1:=by simp[v,n1]
 have rowL:∀r,r<n1->v.row r=v1.row r:=fun r hr=>by
  show(v1.l++[y]).getD r _=v1.l.getD r _;simp only[zi5,zk4 hr];rfl
 have rowN:v.row n1=y:=by
  show(v1.l++[y]).getD n1 _=_;simp[zi5,n1]
 have rowO:∀r,n1<r->v.row r=v1.U.z:=fun r hr=>by
  show(v1.l++[y]).getD r _=_;rw[zi5,zk2 (by simp;omega)];rfl
 have kidL:∀c r q,r<n1->v.at (c::r::q)=v1.at (c::r::q):=fun c r q hr=>by
  rw[LV.qbr,LV.qbr];have:v.kid c r=v1.kid c r:=LV.qmu (v:=v1) (v':=⟨v1.e,v1.U,v1.l++[y]⟩) (by
   show qao v1.U (v.row r) c=qao v1.U (v1.row r) c;rw[rowL r hr])
  rw[this]
 have hobj:∀j,j∉k::ks->j≠k2->H'.obj j=qbv f (s.heap.obj j):=fun j e1 e2=>by
  have:qn4 j (k::ks)=false:=by
   cases h:qn4 j (k::ks)with
   |false=>rfl
   |true=>exact absurd (qen.1 h) e1
  simp only[H',qad.qyi,qav e2,cond_false,this];rfl
 have hobj2:H'.obj k2=.lst v:=by simp only[H',qad.qyi,zjg,cond_true]
 have hdead:∀j,j∈k::ks->j≠k2->∀p,(toH H').slot ⟨j,p⟩=.dead:=fun j e1 e2 p=>by
  show(H'.obj j).slot _ _ _=_;have:qn4 j (k::ks)=true:=qen.2 e1;simp only[H',qad.qyi,qav e2,cond_false,this,cond_true];rfl
 have kks2:∀kk,kk∈ks->kk≠k2:=fun kk h e=>hk2ks (e▸h);have kksk:∀kk,kk∈ks->kk≠k:=fun kk h e=>hkks (e▸h);have hsl2:∀p,(toH H').slot ⟨k2,p⟩=(OD.lst v).slot H'.len k2 p:=fun p=>by show(H'.obj k2).slot _ _ _=_;rw[hobj2]
 have hne:∀id p,f id p=none->(toH s.heap).slot ⟨id,p⟩≠.qae->id∉k::ks/\id≠k2:=fun id p h hb=>by
  have e1:=qro.1 h;refine⟨e1,fun e=>?_⟩;rcases hk2 with e2|e2
  ·exact e1 (by rw[e,e2];exact zjd ..)
  ·exact hb (by rw[e];exact e2 p)
 have mo:∀j q,j∉k::ks->j≠k2->m ⟨j,q⟩=some ⟨j,q⟩:=fun j q e1 e2=>by simp only[m,if_neg e2,if_neg e1]
 have m0:m ⟨k2,[]⟩=some ⟨k,[]⟩:=by simp only[m,if_true]
 have mL:∀c r q,r<n1->m ⟨k2,c::r::q⟩=some ⟨k,c::r::q⟩:=fun c r q hr=>by simp only[m,if_true,if_pos hr]
 have mN:∀c q kk,g c=some kk->m ⟨k2,c::n1::q⟩=some ⟨kk,q⟩:=fun c q kk hg=>by simp only[m,if_true,zku,if_false,hg]
 have hkk:qbk f s.heap H1 H' m (fun _=>False):=⟨fun id p u h=>by rw[qz3 h];simp only[toV];exact KG.un,
  fun id p h hb=>by
   obtain⟨e1,e2⟩:=hne id p h hb;refine .inr ⟨?_,mo id p e1 e2⟩;rw[h1,if_neg (fun e=>e1 (by injection e with e _;rw[e];exact zjd ..))]
   show qa1 _ ((H'.obj id).slot H'.len id p);rw[hobj id e1 e2];exact qb9 hb,
  fun id p h hb=>by
   obtain⟨e1,e2⟩:=hne id p h hb;exact qad.qdx (hobj id e1 e2) p⟩
 have hsk:∀kk w,kk∈ks->s.heap.obj kk=.lst w->∀q,H1.slot ⟨kk,q⟩=(OD.lst w).slot s.heap.len kk q:=fun kk w hk hw q=>by
  rw[h1,if_neg (fun e=>kksk kk hk (by injection e))];show(s.heap.obj kk).slot _ _ _=_;rw[hw]
 have hsL:∀c r q,r<n1->H1.slot ⟨k,c::r::q⟩=(OD.lst v1).slot s.heap.len k (c::r::q):=fun c r q hr=>by
  rw[h1,if_neg (fun e=>by injection e with _ e;cases e)]
  exact hold c r q hr
 -- a list that moves, cell by cell
 have cellM:∀(root root':LV) (ko:Nat) (qo qn:List Nat) (a:LV),root.at qo=some a->root'.at qn=some a->(∀c' r',H1.slot ⟨ko,qo++[c',r']⟩=(OD.lst root).slot s.heap.len ko (qo++[c',r']))->(∀c' r',(toH H').slot ⟨k2,qn++[c',r']⟩=(OD.lst root').slot H'.len k2 (qn++[c',r'])) ->
   (∀c' r',m ⟨k2,qn++[c',r']⟩=some ⟨ko,qo++[c',r']⟩)->∀r' c',KG H1 (toH H') m (fun _=>False) (qbg s.heap.len ko qo r' c' (qao a.U (a.row r') c')) (qbg H'.len k2 qn r' c' (qao a.U (a.row r') c')):=fun root root' ko qo qn a ao an so sn em r' c'=>by
  cases hx:qao a.U (a.row r') c' with
  |ev u=>exact KG.dat (qbi _ _ _ _ hx)
  |own t e l=>
   simp only[qbg];have e1:H1.slot ⟨ko,qo++[c',r']⟩=.live (LV.obj s.heap.len ko (qo++[c',r']) ⟨t,e,l⟩):=by rw[so];exact qcw ao hx
   have e2:(toH H').slot ⟨k2,qn++[c',r']⟩=.live (LV.obj H'.len k2 (qn++[c',r']) ⟨t,e,l⟩):=by rw[sn];exact qcw an hx
   exact KG.qbo e1 e2 (em c' r') rfl rfl rfl rfl (by show 0+l.length<=l.length;omega)
 have gen:Gen H1 (toH H') m (fun _=>False):=by
  refine Gen.qbb (fun j=>j∈k::ks\/j=k2) hkk hf.obj (fun j hj=>?_) (fun i hi o' ho=>?_) (fun i hi sb g' hm=>?_) (fun i j x hi h1' h2' e1 e2=>?_) (by rw[hlo];rfl) (fun i hi=>?_) (fun i hi hil hip=>?_)
  ·have e1:j∉k::ks:=fun e=>hj (.inl e);have e2:j≠k2:=fun e=>hj (.inr e);exact⟨fun p=>qro.2 e1,hobj j e1 e2,fun p=>mo j p e1 e2,fun p h=>h,fun p=>by rw[h1,if_neg (fun e=>e1 (by injection e with e _;rw[e];exact zjd ..))]⟩
  ·obtain⟨j,p⟩:=i;have hj:j=k2:=by
    rcases hi with e|e
    ·by_cases e2:j=k2
     ·exact e2
     ·rw[hdead j e e2]at ho;cases ho
    ·exact e
   subst hj;rw[hsl2]at ho
   match p,ho with
   |[],ho=>
    simp only[OD.slot,LV.qa8]at ho;injection ho with ho;subst ho;refine .inr ⟨⟨k,[]⟩,a1,m0,by rw[h1,if_pos rfl],fun h=>h,ha1,ha2,by show v.l.length<=a1.n;omega,fun r hr c hc=>?_⟩
    have hr:r<v.l.length:=hr;have hc:c<v1.U.sz:=hc;show KG _ _ _ _ _ (qbg H'.len j [] r c (qao v1.U (v.row r) c));by_cases hrl:r<n1
    ·rw[rowL r hrl];refine KG.qh9 (hget1 r hrl c (by omega)) ?_;cases hx:qao v1.U (v1.row r) c with
     |ev u=>exact KG.dat (qbi _ _ _ _ hx)
     |own t e l=>
      simp only[qbg,zj8];have ao:v1.at [c,r]=some ⟨t,e,l⟩:=by rw[LV.at_one];exact LV.qec hx
      have e1:H1.slot ⟨k,[c,r]⟩=.live (LV.obj s.heap.len k [c,r] ⟨t,e,l⟩):=by
       rw[hsL c r [] hrl];simp only[OD.slot,ao]
      have e2:(toH H').slot ⟨j,[c,r]⟩=.live (LV.obj H'.len j [c,r] ⟨t,e,l⟩):=by
       rw[hsl2];simp only[OD.slot,kidL c r [] hrl,ao]
      exact KG.qbo e1 e2 (mL c r [] hrl) rfl rfl rfl rfl (by show 0+l.length<=l.length;omega)
    ·have hrn:r=n1:=by omega
     subst hrn;rw[rowN];refine KG.qh9 (hget2 c (by omega)) ?_;rcases hy.cell c with⟨u,c1,c2⟩|⟨kk,w,c1,c2,c3,c4⟩|⟨c1,_⟩
     ·rw[c1];exact KG.qh9 (c2 hc s.heap.len) (KG.dat (qbi _ _ _ _ c1))
     ·rw[<- qez,c1,c4];have hg:g c=some kk:=by simp only[g,zdy,c1,c4]
      have lk:s.heap.len kk []=some w.l.length:=by
       unfold qad.len;rw[c3];simp only[OD.len,LV.qa8]
      simp only[qbg,toV,lk,zj8];have an:v.at [c,n1]=some w:=by
       rw[LV.at_one];refine LV.qec ?_;show qao v1.U (v.row n1) c=_;rw[rowN];exact c4
      have e1:H1.slot ⟨kk,[]⟩=.live (LV.obj s.heap.len kk [] w):=by rw[hsk kk w c2 c3];simp only[OD.slot,LV.qa8]
      have e2:(toH H').slot ⟨j,[c,n1]⟩=.live (LV.obj H'.len j [c,n1] w):=by rw[hsl2];simp only[OD.slot,an]
      exact KG.qbo e1 e2 (mN c [] kk hg) rfl rfl rfl rfl (by show 0+w.l.length<=w.l.length;omega)
     ·omega
   |[x],ho=>simp only[OD.slot,LV.qfi]at ho;cases ho
   |c::r::q,ho=>
    simp only[OD.slot]at ho;cases ha':v.at (c::r::q)with
    |none=>rw[ha']at ho;cases ho
    |some a'=>
     rw[ha']at ho;injection ho with ho;subst ho;by_cases hrl:r<n1
     ·have ao:v1.at (c::r::q)=some a':=by rw[<- kidL c r q hrl];exact ha'
      refine .inr ⟨⟨k,c::r::q⟩,LV.obj s.heap.len k (c::r::q) a',mL c r q hrl,?_,fun h=>h,rfl,rfl,zi7 _,fun r' hr' c' _=>cellM v1 v k (c::r::q) (c::r::q) a' ao ha' (fun c' r'=>hsL c r (q++[c',r']) hrl) (fun c' r'=>hsl2 _) (fun c' r'=>mL c r (q++[c',r']) hrl) r' c'⟩;rw[hsL c r q hrl];simp only[OD.slot,ao]
     ·by_cases hrn:r=n1
      ·subst hrn;rw[LV.qbr]at ha';cases hkid:v.kid c n1 with
       |none=>rw[hkid]at ha';cases ha'
       |some kd=>
        rw[hkid]at ha';have hkc:=LV.qgj hkid;have hkc:qao v1.U y c=.own kd.e kd.U kd.l:=by
         have:qao v1.U (v.row n1) c=.own kd.e kd.U kd.l:=hkc;rwa [rowN]at this
        rcases hy.cell c with⟨u,c1,c2⟩|⟨kk,w,c1,c2,c3,c4⟩|⟨c1,t,e,c2⟩
        ·rw[c1]at hkc;cases hkc
        ·have hw:w=kd:=by
          rw[c4]at hkc;injection hkc with x1 x2 x3;cases w;cases kd;simp only at x1 x2 x3;subst x1;subst x2;obtain rfl:=eq_of_heq x3;rfl
         subst hw;have hg:g c=some kk:=by simp only[g,zdy,c1,c4]
         refine .inr ⟨⟨kk,q⟩,LV.obj s.heap.len kk q a',mN c q kk hg,?_,fun h=>h,rfl,rfl,zi7 _,fun r' hr' c' _=>cellM w v kk q (c::n1::q) a' ha' (by rw[LV.qbr,hkid];exact ha') (fun c' r'=>hsk kk w c2 c3 _) (fun c' r'=>hsl2 _) (fun c' r'=>mN c (q++[c',r']) kk hg) r' c'⟩
         rw[hsk kk w c2 c3];simp only[OD.slot,ha']
        ·refine .inl ⟨?_,?_⟩
         ·have hg:g c=none:=by
           simp only[g,zdy,qja (show al.length<=c by omega)]
          simp only[m,if_true,zku,if_false,hg]
         ·rw[c2]at hkc;injection hkc with _ x2 x3;have:kd.l=[]:=by
           cases kd;simp only at x2 x3 ⊢;subst x2;exact(eq_of_heq x3).symm
          have:=LV.qgp q kd a' this ha';show a'.l.length=0;rw[this];rfl
      ·refine .inl ⟨by simp only[m,if_true,if_neg hrl,if_neg hrn],?_⟩;rw[LV.qbr]at ha';cases hkid:v.kid c r with
       |none=>rw[hkid]at ha';cases ha'
       |some kd=>
        rw[hkid]at ha';have hkc:=LV.qgj hkid;have hkc:qao v1.U (v.row r) c=.own kd.e kd.U kd.l:=hkc;rw[rowO r (by omega)]at hkc;have:=qoc _ _ _ _ _ hkc;have:=LV.qgp q kd a' this ha';show a'.l.length=0;rw[this];rfl
  ·obtain⟨j,p⟩:=i;exfalso;have hj:j=k2:=by
    rcases hi with e|e
    ·by_cases e2:j=k2
     ·exact e2
     ·rw[hdead j e e2]at hm;cases hm
    ·exact e
   subst hj;rw[hsl2]at hm;simp only[OD.slot]at hm;cases hv:v.at p<;>rw[hv]at hm<;>cases hm
  ·obtain⟨j1,p1⟩:=i;obtain⟨j2,p2⟩:=j;have hj:j1=k2:=by
    rcases hi with e|e
    ·by_cases e2:j1=k2
     ·exact e2
     ·simp only at e;rw[hdead j1 e e2]at h1';exact h1'.elim
    ·exact e
   subst hj;have key:∀p y,m ⟨j1,p⟩=some y->(p=[]/\y=⟨k,[]⟩)\/(∃c r q,p=c::r::q/\r<n1/\y=⟨k,c::r::q⟩)\/∃c q kk,p=c::n1::q/\g c=some kk/\y=⟨kk,q⟩:=fun p y e=>by
    match p,e with
    |[],e=>rw[m0]at e;injection e with e;exact .inl ⟨rfl,e.symm⟩
    |[_],e=>simp only[m,if_true]at e;cases e
    |c::r::q,e=>
     by_cases hr:r<n1
     ·rw[mL c r q hr]at e;injection e with e;exact .inr (.inl ⟨c,r,q,rfl,hr,e.symm⟩)
     ·by_cases hr2:r=n1
      ·subst hr2;cases hg:g c with
       |none=>simp only[m,if_true,zku,if_false,hg]at e;cases e
       |some kk=>rw[mN c q kk hg]at e;injection e with e;exact .inr (.inr ⟨c,q,kk,rfl,hg,e.symm⟩)
      ·simp only[m,if_true,if_neg hr,if_neg hr2]at e;cases e
   have gks:∀c kk,g c=some kk->kk∈ks/\qdj al c=.qa7 kk []:=fun c kk hg=>by
    simp only[g,zdy]at hg;split at hg
    ·rename_i kk' t e l x1 x2;injection hg with hg;subst hg;rcases hy.cell c with⟨u,c1,c2⟩|⟨kk,w,c1,c2,c3,c4⟩|⟨c1,t,e,c2⟩
     ·rw[c1]at x2;cases x2
     ·rw[c1]at x1;injection x1 with x1;subst x1;exact⟨c2,c1⟩
     ·rw[qja (show al.length<=c by omega)]at x1;cases x1
    ·cases hg
   have other:∀p y,j2≠j1->m ⟨j2,p⟩=some y->j2∉k::ks/\y=⟨j2,p⟩:=fun p y hn e=>by
    by_cases hm:j2∈k::ks
    ·simp only[m,if_neg hn,if_pos hm]at e;cases e
    ·rw[mo j2 p hm hn]at e;injection e with e;exact⟨hm,e.symm⟩
   by_cases hj2:j2=j1
   ·subst hj2;rcases key p1 x e1 with⟨rfl,x1⟩|⟨c,r,q,rfl,hr,x1⟩|⟨c,q,kk,rfl,hg,x1⟩<;>rcases key p2 x e2 with⟨rfl,x2⟩|⟨c2,r2,q2,rfl,hr2,x2⟩|⟨c2,q2,kk2,rfl,hg2,x2⟩<;>rw[x1]at x2<;>injection x2 with y1 y2
    ·cases y2
    ·exact absurd y1.symm (kksk kk2 (gks c2 kk2 hg2).1)
    ·cases y2
    ·rw[y2]
    ·exact absurd y1.symm (kksk kk2 (gks c2 kk2 hg2).1)
    ·exact absurd y1 (kksk kk (gks c kk hg).1)
    ·exact absurd y1 (kksk kk (gks c kk hg).1)
    ·subst y1;subst y2;rw[hy.inj c c2 kk (gks c kk hg).2 (gks c2 kk hg2).2 (gks c kk hg).1]
   ·obtain⟨z1,z2⟩:=other p2 x hj2 e2;exfalso;rcases key p1 x e1 with⟨rfl,x1⟩|⟨c,r,q,rfl,hr,x1⟩|⟨c,q,kk,rfl,hg,x1⟩<;>rw[z2]at x1<;>injection x1 with y1 y2
    ·exact z1 (by rw[y1];exact zjd ..)
    ·exact z1 (by rw[y1];exact zjd ..)
    ·exact z1 (by rw[y1];exact zjk _ (gks c kk hg).1)
  ·have hi:nx<=i.k:=hi;have hks:∀kk,kk∈ks->kk<s.heap.next:=fun kk h=>Classical.byContradiction fun hn=>by
    obtain⟨w,hw⟩:=hy.live kk h;have:=hf.next ⟨kk,[]⟩ (zj9 hn);have e:(toH s.heap).slot ⟨kk,[]⟩=(OD.lst w).slot s.heap.len kk []:=by show(s.heap.obj kk).slot _ _ _=_;rw[hw]
    rw[e]at this;simp only[OD.slot,LV.qa8]at this;cases this
   have e1:i.k∉k::ks:=fun e=>by
    rcases zjx.1 e with e|e
    ·omega
    ·have:=hks _ e;omega
   have e2:i.k≠k2:=by omega
   show(H'.obj i.k).slot _ _ _=_;rw[hobj _ e1 e2];exact qcs.2 (hf.next i (by omega))
  ·obtain⟨j,p⟩:=i;simp only at hip hil;subst hip;rw[hlo]at hil;have e2:j≠k2:=fun e=>by omega
   rcases hi with e|e
   ·exact .inr (.inl (hdead j e e2 []))
   ·exact absurd e e2
 refine qgy.gen m (fun _=>False) (by rw[qay,qg8,qg8];rfl) (by rw[qcv,qay,qcv];exact gen) (fun t=>?_)
 have hh1:(((qbf s).on H1).put d u0).heap=H1:=by rw[qcv];rfl
 have hh2:(qbf ((s.qyi (k::ks) k2 nx v).put d (.qa7 k2 []))).heap=toH H':=by rw[qay,qcv];rfl
 rw[hh1,hh2,qay];have l2:H'.len k2 []=some v.l.length:=by
  unfold qad.len;rw[hobj2];simp only[OD.len,LV.qa8]
 have hlast:toV H'.len (.qa7 k2 [])=.qbo ⟨k2,[]⟩ 0 0 v.l.length:=by
  simp only[toV,l2]
 show KG H1 (toH H') m _ ((((qbf s).on H1).put d u0).env t) (((qbf (s.qyi (k::ks) k2 nx v)).put d (toV H'.len (.qa7 k2 []))).env t);have base:KG H1 (toH H') m (fun _=>False) (toV s.heap.len (s.env t)) (toV H'.len (qbb f (s.env t))):=qbk.keeps hkk _ (hf.env t);cases d with
 |none=>exact base
 |some d=>
  simp only[St.put];cases Nat.beq t d with
  |false=>exact base
  |true=>
   show KG _ _ _ _ (bif Nat.blt d s.nt then u0 else .un) (bif Nat.blt d s.nt then toV H'.len (.qa7 k2 [])else .un);cases Nat.blt d s.nt with
   |false=>exact KG.un
   |true=>
    simp only[cond_true];rw[hlast];refine KG.qh9 (hu (fun e=>by cases e)) ?_;have e3:v.l.length=a1.n:=by rw[vn];exact ha3
    rw[<- e3];have h2:(toH H').slot ⟨k2,[]⟩=.live (v.obj H'.len k2 []):=by rw[hsl2];simp only[OD.slot,LV.qa8]
    exact KG.qbo (i:=⟨k,[]⟩) (j:=⟨k2,[]⟩) (by rw[h1,if_pos rfl]) h2 m0 rfl rfl ha2 ha1 (zkp (zjf _))
end
end
end Go.Abs
namespace Go.Abs
noncomputable section
variable {P:Program} {d:Option Tmp} {ty:TypeId} {L:List GOp} {ρ:Type}
section
variable [SU] [qa3] {Q:Exit->ESt->Prop}
def qad.q3x(H:qad)(id k n:Nat)(root:LV)(p:List Nat)(r c:Nat)(w:LV):qad:=
 { H with next:=k+1,obj:=fun j=>bif Nat.beq j id then .hole root p r c (.qa7 k [])else bif Nat.beq j k then .lst w else qbv (qyh id k n) (H.obj j) }
def ESt.q3x(s:ESt)(id k n:Nat)(root:LV)(p:List Nat)(r c:Nat)(w:LV)(tx:Tmp):ESt:=
 { s with env:=fun t=>bif Nat.beq t tx then .qa7 k []else qbb (qyh id k n) (s.env t),heap:=s.heap.q3x id k n root p r c w }
theorem qe3{len:Len}{k:Nat}{v:LV}{p q:List Nat}{r c:Nat}{u:EV}{a:LV}(hq:¬ p++[c,r] <+: q)(ha:v.at q=some a):(OD.hole v p r c u).slot len k q=.live (a.qj9 len k q p r c u):=by
 simp only[OD.slot,if_neg hq,ha]
theorem qsm{len:Len}{k:Nat}{v:LV}{p q:List Nat}{r c:Nat}{u:EV}(hq:¬ p++[c,r] <+: q)(ha:v.at q=none):(OD.hole v p r c u).slot len k q=.qae:=by
 simp only[OD.slot,if_neg hq,ha]
theorem zal{len:Len}{k:Nat}{v:LV}{p q:List Nat}{r c:Nat}{u:EV}(hq:p++[c,r] <+: q):(OD.hole v p r c u).slot len k q=.dead:=by
 simp only[OD.slot,if_pos hq]
theorem not_under{p q:List Nat}{r c r' c':Nat}(hp:p.length % 2=0)(hq:q.length % 2=0)(hn:¬ p++[c,r] <+: q)(hne:¬ (q=p/\r'=r/\c'=c)):¬ p++[c,r] <+: q++[c',r']:=fun⟨z,hz⟩=>by
 have hlen:=congrArg List.length hz;simp only[zjh,zi9,zji]at hlen;by_cases hz0:z=[]
 ·subst hz0;rw[zkd]at hz;have h2:p=q/\[c,r]=[c',r']:=List.append_inj' hz rfl;have h3:=h2.2;simp only[List.cons.injEq,and_true]at h3;exact hne ⟨h2.1.symm,h3.2.symm,h3.1.symm⟩
 ·have hzl:z.length≠0:=fun e=>hz0 (zla e);refine hn (List.prefix_of_prefix_length_le ⟨z,hz⟩ (List.prefix_append q [c',r']) ?_);simp only[zjh,zi9,zji];omega
theorem qbz.q3x{s:ESt}{id:Nat}{p:List Nat}{root v w:LV}{r c:Nat}{tx:Tmp}(hik:id<s.heap.next)(ho:s.heap.obj id=.lst root)(hv:root.at p=some v)(hr:r<v.l.length)
  (hc:c<v.U.sz) (hw:qao v.U (v.row r) c=.own w.e w.U w.l) (htx:s.env tx=.qa7 id (p++[c,r])) :
  qbz s (s.q3x id s.heap.next (p.length+2) root p r c w tx):=qgy.fair fun hf=>by
 let k:=s.heap.next
 let PP:List Nat:=p++[c,r]
 let m:Id->Option Id:=tkM id k PP
 let f:=qyh id k (p.length+2)
 let H':=s.heap.q3x id k (p.length+2) root p r c w
 have hne:id≠k:=Nat.ne_of_lt hik;have hpe:=LV.qgo p root v hv;have hPP:PP.length=p.length+2:=by simp[PP]
 have eV:root.at PP=some w:=by
  rw[LV.qbu _ _ _ _ hv,LV.at_one];exact LV.qec hw
 have atP:∀q,root.at (PP++q)=w.at q:=fun q=>by rw[LV.qbu _ _ _ _ eV]
 have hobj:∀j,j≠id->j≠k->H'.obj j=qbv f (s.heap.obj j):=fun j e1 e2=>by simp only[H',qad.q3x,qav e1,qav e2,cond_false];rfl
 have hobji:H'.obj id=.hole root p r c (.qa7 k []):=by simp only[H',qad.q3x,zjg,cond_true]
 have hobjk:H'.obj k=.lst w:=by simp only[H',qad.q3x,qav (fun e=>hne e.symm),cond_false,zjg,cond_true]
 have hsl:∀q,(toH s.heap).slot ⟨id,q⟩=(OD.lst root).slot s.heap.len id q:=fun q=>by show(s.heap.obj id).slot _ _ _=_;rw[ho]
 have hslk:∀q,(toH s.heap).slot ⟨k,q⟩=.qae:=fun q=>hf.next ⟨k,q⟩ (zi7 _);have hsl':∀q,(toH H').slot ⟨id,q⟩=(OD.hole root p r c (.qa7 k [])).slot H'.len id q:=fun q=>by show(H'.obj id).slot _ _ _=_;rw[hobji]
 have hslk':∀q,(toH H').slot ⟨k,q⟩=(OD.lst w).slot H'.len k q:=fun q=>by show(H'.obj k).slot _ _ _=_;rw[hobjk]
 have fn:∀j q,f j q=none->j≠k/\¬ (j=id/\PP <+: q):=fun j q h=>by
  obtain⟨e1,e2⟩:=qnu h;exact⟨e1,fun⟨x,y⟩=>e2 ⟨x,by rw[<- hPP];exact y.length_le⟩⟩
 have mo:∀j q,j≠id->j≠k->m ⟨j,q⟩=some ⟨j,q⟩:=fun j q e1 e2=>by simp only[m,tkM,if_neg e2,e1,false_and,if_false]
 have mi:∀q,¬ PP <+: q->m ⟨id,q⟩=some ⟨id,q⟩:=fun q e=>by simp only[m,tkM,if_neg hne,e,and_false,if_false]
 have mk:∀q,m ⟨k,q⟩=some ⟨id,PP++q⟩:=fun q=>by simp only[m,tkM,if_true]
 have hkk:qbk f s.heap (toH s.heap) H' m (fun _=>False):=⟨fun j q u h=>by
   have:u=.un:=qnt h;rw[this];simp only[toV];exact KG.un,
  fun j q h hb=>by
   obtain⟨e1,e2⟩:=fn j q h;by_cases hj:j=id
   ·subst hj;have hq:¬ PP <+: q:=fun e=>e2 ⟨rfl,e⟩;refine .inr ⟨?_,mi q hq⟩;rw[hsl',hsl];rw[hsl]at hb;cases ha:root.at q with
    |none=>simp only[OD.slot,ha]at hb;exact absurd rfl hb
    |some a=>
     rw[qe3 hq ha];simp only[OD.slot,ha];exact⟨rfl,rfl,rfl,rfl⟩
   ·refine .inr ⟨?_,mo j q hj e1⟩;show qa1 _ ((H'.obj j).slot H'.len j q);rw[hobj j hj e1];exact qb9 hb,
  fun j q h hb=>by
   obtain⟨e1,e2⟩:=fn j q h;by_cases hj:j=id
   ·subst hj;unfold qad.len;rw[hobji,ho];simp only[OD.len]
   ·exact qad.qdx (hobj j hj e1) q⟩
 have fo:∀j,j≠id->j≠k->∀q,f j q=none:=fun j e1 e2 q=>qh4 e2 (fun e=>absurd e e1);have l1:s.heap.len id PP=some w.l.length:=by
  unfold qad.len;rw[ho];simp only[OD.len,eV]
 have l2:H'.len k []=some w.l.length:=by
  unfold qad.len;rw[hobjk];simp only[OD.len,LV.qa8]
 have e1P:(toH s.heap).slot ⟨id,PP⟩=.live (LV.obj s.heap.len id PP w):=by rw[hsl];simp only[OD.slot,eV]
 have e2K:(toH H').slot ⟨k,[]⟩=.live (LV.obj H'.len k [] w):=by rw[hslk'];simp only[OD.slot,LV.qa8]
 have emK:m ⟨k,[]⟩=some ⟨id,PP⟩:=by rw[mk,zkd]
 have link:KG (toH s.heap) (toH H') m (fun _=>False) (.qbo ⟨id,PP⟩ 0 0 w.l.length) (.qbo ⟨k,[]⟩ 0 0 w.l.length):=KG.qbo e1P e2K emK rfl rfl rfl rfl (by show 0+w.l.length<=w.l.length;omega)
 -- cells of the list that moves
 have cellM:∀(q:List Nat) (a:LV),w.at q=some a->∀r' c',r'<a.l.length->KG (toH s.heap) (toH H') m (fun _=>False) (qbg s.heap.len id (PP++q) r' c' (qao a.U (a.row r') c')) (qbg H'.len k q r' c' (qao a.U (a.row r') c')):=fun q a ha r' c' hr'=>by
  cases hx:qao a.U (a.row r') c' with
  |ev u=>exact KG.dat (qbi _ _ _ _ hx)
  |own t e l=>
   simp only[qbg];have e1:(toH s.heap).slot ⟨id,PP++q++[c',r']⟩=.live (LV.obj s.heap.len id (PP++q++[c',r']) ⟨t,e,l⟩):=by
    rw[hsl];exact qcw (by rw[atP];exact ha) hx
   have e2:(toH H').slot ⟨k,q++[c',r']⟩=.live (LV.obj H'.len k (q++[c',r']) ⟨t,e,l⟩):=by
    rw[hslk'];exact qcw ha hx
   refine KG.qbo (o:=LV.obj s.heap.len id (PP++q++[c',r']) ⟨t,e,l⟩) e1 e2 ?_ rfl rfl rfl rfl (by show 0+l.length<=l.length;omega)
   rw[mk];exact congrArg (fun z=>some (Id.mk id z)) (zkr PP q [c',r']).symm
 have idlive:(toH s.heap).slot ⟨id,[]⟩≠.qae:=by rw[hsl];simp only[OD.slot,LV.qa8];intro e;cases e
 -- cells of the lists that stay
 have cellS:∀(q:List Nat) (a:LV),root.at q=some a->¬ PP <+: q->∀r' c',¬ (q=p/\r'=r/\c'=c) ->
   KG (toH s.heap) (toH H') m (fun _=>False) (qbg s.heap.len id q r' c' (qao a.U (a.row r') c')) (qbg H'.len id q r' c' (qao a.U (a.row r') c')):=fun q a ha hnq r' c' hne=>by
  cases hx:qao a.U (a.row r') c' with
  |ev u=>exact KG.dat (qbi _ _ _ _ hx)
  |own t e l=>
   simp only[qbg];have np:¬ PP <+: q++[c',r']:=not_under hpe (LV.qgo _ _ _ ha) hnq hne;have ek:root.at (q++[c',r'])=some ⟨t,e,l⟩:=by rw[LV.qbu _ _ _ _ ha,LV.at_one,LV.qec hx]
   have e1:(toH s.heap).slot ⟨id,q++[c',r']⟩=.live (LV.obj s.heap.len id (q++[c',r']) ⟨t,e,l⟩):=by rw[hsl];exact qcw ha hx
   have e2:(toH H').slot ⟨id,q++[c',r']⟩=.live (LV.qj9 H'.len id (q++[c',r']) ⟨t,e,l⟩ p r c (.qa7 k [])):=by rw[hsl'];exact qe3 np ek
   exact KG.qbo e1 e2 (mi _ np) rfl rfl rfl rfl (by show 0+l.length<=l.length;omega)
 have gen:Gen (toH s.heap) (toH H') m (fun _=>False):=by
  refine Gen.qbb (fun j=>j=id\/j=k) hkk hf.obj (fun j hj=>?_) (fun i hi o' ho'=>?_) (fun i hi sb g' hm=>?_) (fun i j x hi h1' h2' e1 e2=>?_) rfl (fun i hi=>?_) (fun i hi hil hip=>?_)
  ·have e1:j≠id:=fun e=>hj (.inl e);have e2:j≠k:=fun e=>hj (.inr e);exact⟨fo j e1 e2,hobj j e1 e2,fun q=>mo j q e1 e2,fun q h=>h,fun q=>rfl⟩
  ·obtain⟨j,q⟩:=i;by_cases hj:j=id
   ·subst hj;rw[hsl']at ho';by_cases hq:PP <+: q
    ·rw[zal hq]at ho';cases ho'
    cases ha:root.at q with
    |none=>rw[qsm hq ha]at ho';cases ho'
    |some a=>
     rw[qe3 hq ha]at ho';injection ho' with ho';subst ho';refine .inr ⟨⟨j,q⟩,LV.obj s.heap.len j q a,mi q hq,?_,fun h=>h,rfl,rfl,zi7 _,fun r' hr' c' hc'=>?_⟩
     ·rw[hsl];simp only[OD.slot,ha]
     ·simp only[LV.qj9,LV.obj];by_cases hx:q=p/\r'=r/\c'=c
      ·rw[if_pos hx];obtain⟨rfl,rfl,rfl⟩:=hx;rw[hv]at ha;injection ha with ha;subst ha;rw[hw];simp only[qbg,toV,l2];exact link
      ·rw[if_neg hx];exact cellS q a ha hq r' c' hx
   ·have hj2:j=k:=hi.resolve_left hj;subst hj2;rw[hslk']at ho';simp only[OD.slot]at ho';cases ha':w.at q with
    |none=>rw[ha']at ho';cases ho'
    |some a'=>
     rw[ha']at ho';injection ho' with ho';subst ho';refine .inr ⟨⟨id,PP++q⟩,LV.obj s.heap.len id (PP++q) a',mk q,?_,fun h=>h,rfl,rfl,zi7 _,fun r' hr' c' _=>cellM q a' ha' r' c' hr'⟩;rw[hsl];simp only[OD.slot,atP,ha']
  ·obtain⟨j,q⟩:=i;by_cases hj:j=id
   ·subst hj;rw[hsl']at hm;simp only[OD.slot]at hm;split at hm
    ·cases hm
    ·cases ha':root.at q<;>rw[ha']at hm<;>cases hm
   ·have hj2:j=k:=hi.resolve_left hj;subst hj2;rw[hslk']at hm;simp only[OD.slot]at hm;cases ha':w.at q<;>rw[ha']at hm<;>cases hm
  ·obtain⟨j1,q1⟩:=i;obtain⟨j2,q2⟩:=j;have key:∀q y,m ⟨id,q⟩=some y->¬ PP <+: q/\y=⟨id,q⟩:=fun q y e=>by
    by_cases hq:PP <+: q
    ·simp only[m,tkM,if_neg hne,hq,and_self,if_true]at e;cases e
    ·rw[mi q hq]at e;injection e with e;exact⟨hq,e.symm⟩
   by_cases n1:j1=id
   ·subst n1;obtain⟨p1,x1⟩:=key q1 x e1;by_cases n2:j2=j1
    ·subst n2;obtain⟨p2,x2⟩:=key q2 x e2;rw[<- x1,<- x2]
    ·by_cases n3:j2=k
     ·subst n3;rw[mk]at e2;injection e2 with e2;rw[x1]at e2;injection e2 with _ e2;exact absurd ⟨q2,e2⟩ p1
     ·rw[mo j2 q2 n2 n3]at e2;injection e2 with e2;rw[x1]at e2;injection e2 with e2 _;exact absurd e2 n2
   ·have hj:j1=k:=hi.resolve_left n1;subst hj;rw[mk]at e1;injection e1 with e1;by_cases n2:j2=id
    ·subst n2;obtain⟨p2,x2⟩:=key q2 x e2;rw[x2]at e1;injection e1 with _ e1;exact absurd ⟨q1,e1⟩ p2
    ·by_cases n3:j2=k
     ·subst n3;rw[mk]at e2;injection e2 with e2;rw[<- e1]at e2;injection e2 with _ e2;rw[List.append_cancel_left e2]
     ·rw[mo j2 q2 n2 n3]at e2;injection e2 with e2;rw[<- e1]at e2;injection e2 with e2 _;exact absurd e2 n2
  ·have hi:s.heap.next+1<=i.k:=hi;have e1:i.k≠id:=by omega
   have e2:i.k≠k:=by show i.k≠s.heap.next;omega
   show(H'.obj i.k).slot _ _ _=_;rw[hobj _ e1 e2];exact qcs.2 (hf.next i (by omega))
  ·obtain⟨j,q⟩:=i;simp only at hip hil;subst hip;by_cases hj:j=id
   ·subst hj;have fnone:f j []=none:=qh4 hne (fun _=>by simp);rcases hkk.slot j [] fnone idlive with h|⟨h,h'⟩
    ·exact .inr (.inl h)
    ·exact .inr (.inr ⟨h',h⟩)
   ·have hj2:j=k:=hi.resolve_left hj;subst hj2;exact .inl (hslk [])
 refine qgy.gen m (fun _=>False) rfl gen (fun t=>?_);show KG (toH s.heap) (toH H') m (fun _=>False) (toV s.heap.len (s.env t)) (toV H'.len (bif Nat.beq t tx then .qa7 k []else qbb f (s.env t)));cases ht:Nat.beq t tx with
 |false=>exact qbk.keeps hkk _ (hf.env t)
 |true=>
  obtain rfl:=qbj ht;rw[htx];simp only[cond_true,toV];rw[show p++[c,r]=PP from rfl,l1,l2];exact link
theorem qbz.qy3{s:ESt}{id k:Nat}{p:List Nat}{root v root' w:LV}{r c:Nat}{y:v.U.D}(hik:id≠k)(ho:s.heap.obj id=.hole root p r c (.qa7 k []))(hk:s.heap.obj k=.lst w)(hv:root.at p=some v)(hr:r<v.l.length)
  (hc:c<v.U.sz) (hy1:qao v.U y c=.own w.e w.U w.l) (hy2:∀c',c'≠c->qao v.U y c'=qao v.U (v.row r) c') (hp:root.put p (v.setRow r y)=some root') :
  qbz s (s.att id k (p++[c,r]) root'):=qgy.fair fun hf=>by
 let PP:List Nat:=p++[c,r]
 let m:Id->Option Id:=q3y id k PP
 let f:=qyh id k PP.length
 let H':=s.heap.att id k PP root'
 obtain⟨a1,a2,a3,a4⟩:=LV.qvs p root v root' r c y hv hr hy2 hp;have hpe:=LV.qgo p root v hv;have hPP:PP.length=p.length+2:=by simp[PP]
 have atP:∀q,root'.at (PP++q)=w.at q:=fun q=>by
  have e1:root'.at PP=some ⟨w.e,w.U,w.l⟩:=by
   rw[LV.qbu _ _ _ _ a1,LV.at_one];refine LV.qec ?_;rw[LV.qbw hr,if_pos rfl];exact hy1
  rw[LV.qbu _ _ _ _ e1]
 have hobj:∀j,j≠id->j≠k->H'.obj j=qbv f (s.heap.obj j):=fun j e1 e2=>by simp only[H',qad.att,qav e1,qav e2,cond_false];rfl
 have hobji:H'.obj id=.lst root':=by simp only[H',qad.att,zjg,cond_true]
 have hobjk:H'.obj k=.dead:=by simp only[H',qad.att,qav (fun e=>hik e.symm),cond_false,zjg,cond_true]
 have hsl:∀q,(toH s.heap).slot ⟨id,q⟩=(OD.hole root p r c (.qa7 k [])).slot s.heap.len id q:=fun q=>by show(s.heap.obj id).slot _ _ _=_;rw[ho]
 have hslk:∀q,(toH s.heap).slot ⟨k,q⟩=(OD.lst w).slot s.heap.len k q:=fun q=>by show(s.heap.obj k).slot _ _ _=_;rw[hk]
 have hsl':∀q,(toH H').slot ⟨id,q⟩=(OD.lst root').slot H'.len id q:=fun q=>by show(H'.obj id).slot _ _ _=_;rw[hobji]
 have fn:∀j q,f j q=none->j≠k/\¬ (j=id/\PP <+: q):=fun j q h=>by
  obtain⟨e1,e2⟩:=qnu h;exact⟨e1,fun⟨x,y⟩=>e2 ⟨x,y.length_le⟩⟩
 have mo:∀j q,j≠id->j≠k->m ⟨j,q⟩=some ⟨j,q⟩:=fun j q e1 e2=>by simp only[m,q3y,if_neg e1,if_neg e2]
 have mi:∀q,¬ PP <+: q->m ⟨id,q⟩=some ⟨id,q⟩:=fun q e=>by simp only[m,q3y,if_true,if_neg e]
 have mp:∀q,m ⟨id,PP++q⟩=some ⟨k,q⟩:=fun q=>by
  simp only[m,q3y,if_true];rw[if_pos ⟨q,rfl⟩];simp
 have mk:∀q,m ⟨k,q⟩=none:=fun q=>by simp only[m,q3y,if_neg (fun e:k=id=>hik e.symm),if_true]
 have npp:¬ PP <+: p:=fun h=>by have:=h.length_le;omega
 have hkk:qbk f s.heap (toH s.heap) H' m (fun _=>False):=⟨fun j q u h=>by
   have:u=.un:=qnt h;rw[this];simp only[toV];exact KG.un,
  fun j q h hb=>by
   obtain⟨e1,e2⟩:=fn j q h;by_cases hj:j=id
   ·subst hj;have hq:¬ PP <+: q:=fun e=>e2 ⟨rfl,e⟩;refine .inr ⟨?_,mi q hq⟩;rw[hsl',hsl];rw[hsl]at hb;rcases a2 q hq with⟨x1,x2⟩|⟨x,x',x1,x2,x3⟩
    ·rw[qsm hq x2]at hb;exact absurd rfl hb
    ·rw[qe3 hq x1];simp only[OD.slot,x2];exact⟨rfl,x3.e,by show x'.U.sz=x.U.sz;rw[x3.U],x3.n⟩
   ·refine .inr ⟨?_,mo j q hj e1⟩;show qa1 _ ((H'.obj j).slot H'.len j q);rw[hobj j hj e1];exact qb9 hb,
  fun j q h hb=>by
   obtain⟨e1,e2⟩:=fn j q h;by_cases hj:j=id
   ·subst hj;have hq:¬ PP <+: q:=fun e=>e2 ⟨rfl,e⟩;unfold qad.len;rw[hobji,ho];simp only[OD.len];rcases a2 q hq with⟨x1,x2⟩|⟨x,x',x1,x2,x3⟩
    ·rw[x1,x2]
    ·rw[x1,x2];simp only[x3.n]
   ·exact qad.qdx (hobj j hj e1) q⟩
 have fo:∀j,j≠id->j≠k->∀q,f j q=none:=fun j e1 e2 q=>qh4 e2 (fun e=>absurd e e1)
 -- cells of the list that moves
 have cellM:∀(q:List Nat) (a:LV),w.at q=some a->∀r' c',r'<a.l.length->KG (toH s.heap) (toH H') m (fun _=>False) (qbg s.heap.len k q r' c' (qao a.U (a.row r') c')) (qbg H'.len id (PP++q) r' c' (qao a.U (a.row r') c')):=fun q a ha r' c' hr'=>by
  cases hx:qao a.U (a.row r') c' with
  |ev u=>exact KG.dat (qbi _ _ _ _ hx)
  |own t e l=>
   simp only[qbg];have e1:(toH s.heap).slot ⟨k,q++[c',r']⟩=.live (LV.obj s.heap.len k (q++[c',r']) ⟨t,e,l⟩):=by
    rw[hslk];exact qcw ha hx
   have e2:(toH H').slot ⟨id,PP++q++[c',r']⟩=.live (LV.obj H'.len id (PP++q++[c',r']) ⟨t,e,l⟩):=by
    rw[hsl'];exact qcw (by rw[atP];exact ha) hx
   refine KG.qbo (o:=LV.obj s.heap.len k (q++[c',r']) ⟨t,e,l⟩) e1 e2 ?_ rfl rfl rfl rfl (by show 0+l.length<=l.length;omega)
   have:=mp (q++[c',r']);rwa [<- zkr]at this
 have idlive:(toH s.heap).slot ⟨id,[]⟩≠.qae:=by
  rw[hsl,qe3 (fun h=>by have:=h.length_le;simp at this) (LV.qa8 _)]
  intro e;cases e
 have klive:(toH s.heap).slot ⟨k,[]⟩≠.qae:=by rw[hslk];simp only[OD.slot,LV.qa8];intro e;cases e
 have kdead:∀q,(toH H').slot ⟨k,q⟩=.dead:=fun q=>by show(H'.obj k).slot _ _ _=_;rw[hobjk];rfl
 -- cells of the lists that stay
 have cellS:∀(q:List Nat) (a a':LV),root.at q=some a->root'.at q=some a'->¬ PP <+: q->∀r' c' (x x':Cell),¬ (q=p/\r'=r/\c'=c)->x=qao a.U (a.row r') c'->x'=qao a'.U (a'.row r') c'->x.Sim x' ->
   KG (toH s.heap) (toH H') m (fun _=>False) (qbg s.heap.len id q r' c' x) (qbg H'.len id q r' c' x'):=fun q a a' ha ha' hnq r' c' x x' hne hx hx' hsim=>by
  cases x with
  |ev u=>
   cases x' with
   |own t e l=>exact hsim.elim
   |ev u'=>
    have:u=u':=hsim;subst this;exact KG.dat (qbi _ _ _ _ hx.symm)
  |own t e l=>
   cases x' with
   |ev u=>exact hsim.elim
   |own t' e' l'=>
    obtain⟨rfl,rfl,hl⟩:=hsim;simp only[qbg];have np:¬ PP <+: q++[c',r']:=not_under hpe (LV.qgo _ _ _ ha) hnq hne;rw[hl];have ek:root.at (q++[c',r'])=some ⟨t,e,l⟩:=by rw[LV.qbu _ _ _ _ ha,LV.at_one,LV.qec hx.symm]
    have e1:(toH s.heap).slot ⟨id,q++[c',r']⟩=.live (LV.qj9 s.heap.len id (q++[c',r']) ⟨t,e,l⟩ p r c (.qa7 k [])):=by rw[hsl];exact qe3 np ek
    have e2:(toH H').slot ⟨id,q++[c',r']⟩=.live (LV.obj H'.len id (q++[c',r']) ⟨t,e,l'⟩):=by rw[hsl'];exact qcw ha' hx'.symm
    exact KG.qbo e1 e2 (mi _ np) rfl rfl rfl rfl (by show 0+l'.length<=l'.length;omega)
 have gen:Gen (toH s.heap) (toH H') m (fun _=>False):=by
  refine Gen.qbb (fun j=>j=id\/j=k) hkk hf.obj (fun j hj=>?_) (fun i hi o' ho'=>?_) (fun i hi sb g' hm=>?_) (fun i j x hi h1' h2' e1 e2=>?_) rfl (fun i hi=>?_) (fun i hi hil hip=>?_)
  ·have e1:j≠id:=fun e=>hj (.inl e);have e2:j≠k:=fun e=>hj (.inr e);exact⟨fo j e1 e2,hobj j e1 e2,fun q=>mo j q e1 e2,fun q h=>h,fun q=>rfl⟩
  ·obtain⟨j,q⟩:=i;by_cases hj:j=id
   ·subst hj;rw[hsl']at ho';simp only[OD.slot]at ho';cases ha':root'.at q with
    |none=>rw[ha']at ho';cases ho'
    |some a'=>
     rw[ha']at ho';injection ho' with ho';subst ho';by_cases hq:PP <+: q
     ·obtain⟨q',rfl⟩:=hq;rw[atP]at ha';refine .inr ⟨⟨k,q'⟩,LV.obj s.heap.len k q' a',mp q',?_,fun h=>h,rfl,rfl,zi7 _,fun r' hr' c' _=>cellM q' a' ha' r' c' hr'⟩;rw[hslk];simp only[OD.slot,ha']
     ·rcases a2 q hq with⟨x1,x2⟩|⟨x,x',x1,x2,x3⟩
      ·rw[x1]at ha';cases ha'
      ·have ha2:=ha';rw[x2]at ha';injection ha' with ha';subst ha';refine .inr ⟨⟨j,q⟩,LV.qj9 s.heap.len j q x p r c (.qa7 k []),mi q hq,?_,fun h=>h,x3.e,?_,zkp x3.n,fun r' hr' c' hc'=>?_⟩
       ·rw[hsl];exact qe3 hq x1
       ·show x'.U.sz=x.U.sz;rw[x3.U]
       ·simp only[LV.qj9,LV.obj];by_cases hx:q=p/\r'=r/\c'=c
        ·rw[if_pos hx];obtain⟨rfl,rfl,rfl⟩:=hx;rw[a1]at ha2;injection ha2 with ha2;subst ha2;have er:(v.setRow r' y).row r'=y:=by rw[LV.qbw hr,if_pos rfl]
         have ec:qao (v.setRow r' y).U ((v.setRow r' y).row r') c'=.own w.e w.U w.l:=by rw[er];exact hy1
         rw[ec];have l2:s.heap.len k []=some w.l.length:=by
          unfold qad.len;rw[hk];simp only[OD.len,LV.qa8]
         simp only[qbg,toV,l2];have e2:(toH H').slot ⟨j,PP⟩=.live (LV.obj H'.len j PP w):=by
          rw[hsl'];have:=atP [];rw[zkd,LV.qa8]at this;simp only[OD.slot,this]
         have e1:(toH s.heap).slot ⟨k,[]⟩=.live (LV.obj s.heap.len k [] w):=by
          rw[hslk];simp only[OD.slot,LV.qa8]
         have em:m ⟨j,PP⟩=some ⟨k,[]⟩:=by
          have:=mp [];rwa [zkd]at this
         exact KG.qbo e1 e2 em rfl rfl rfl rfl (by show 0+w.l.length<=w.l.length;omega)
        ·rw[if_neg hx];exact cellS q x x' x1 x2 hq r' c' _ _ hx rfl rfl (x3.c r' c' hx)
   ·have hj2:j=k:=hi.resolve_left hj;subst hj2;rw[kdead]at ho';cases ho'
  ·obtain⟨j,q⟩:=i;by_cases hj:j=id
   ·subst hj;rw[hsl']at hm;simp only[OD.slot]at hm;cases ha':root'.at q<;>rw[ha']at hm<;>cases hm
   ·have hj2:j=k:=hi.resolve_left hj;subst hj2;rw[kdead]at hm;cases hm
  ·obtain⟨j1,q1⟩:=i;obtain⟨j2,q2⟩:=j;have n1:j1≠k:=fun e=>by subst e;rw[kdead]at h1';exact h1'
   have n2:j2≠k:=fun e=>by subst e;rw[kdead]at h2';exact h2'
   have hj:j1=id:=hi.resolve_right n1;subst hj;have key:∀q y,m ⟨j1,q⟩=some y->(PP <+: q/\y=⟨k,q.drop PP.length⟩)\/(¬ PP <+: q/\y=⟨j1,q⟩):=fun q y e=>by
    by_cases hq:PP <+: q
    ·obtain⟨z,rfl⟩:=hq;rw[mp]at e;injection e with e;exact .inl ⟨⟨z,rfl⟩,by rw[<- e];simp⟩
    ·rw[mi q hq]at e;injection e with e;exact .inr ⟨hq,e.symm⟩
   by_cases hj2:j2=j1
   ·subst hj2;rcases key q1 x e1 with⟨p1,x1⟩|⟨p1,x1⟩<;>rcases key q2 x e2 with⟨p2,x2⟩|⟨p2,x2⟩
    ·rw[x1]at x2;injection x2 with _ x2;obtain⟨z1,rfl⟩:=p1;obtain⟨z2,rfl⟩:=p2;simp at x2;rw[x2]
    ·rw[x1]at x2;injection x2 with x2 _;exact absurd x2.symm hik
    ·rw[x1]at x2;injection x2 with x2 _;exact absurd x2 hik
    ·rw[<- x1,<- x2]
   ·rw[mo j2 q2 hj2 n2]at e2;injection e2 with e2;rcases key q1 x e1 with⟨p1,x1⟩|⟨p1,x1⟩
    ·rw[x1]at e2;injection e2 with e2 _;exact absurd e2 n2
    ·rw[x1]at e2;injection e2 with e2 _;exact absurd e2 hj2
  ·have hi:s.heap.next<=i.k:=hi;have e1:i.k≠id:=fun e=>idlive (by
    have:=hf.next ⟨id,[]⟩ (by rw[<- e];exact hi)
    exact this)
   have e2:i.k≠k:=fun e=>klive (by
    have:=hf.next ⟨k,[]⟩ (by rw[<- e];exact hi)
    exact this)
   show(H'.obj i.k).slot _ _ _=_;rw[hobj _ e1 e2];exact qcs.2 (hf.next i hi)
  ·obtain⟨j,q⟩:=i;simp only at hip hil;subst hip;by_cases hj:j=id
   ·subst hj;have fnone:f j []=none:=qh4 hik (fun _=>by rw[hPP];simp)
    rcases hkk.slot j [] fnone idlive with h|⟨h,h'⟩
    ·exact .inr (.inl h)
    ·exact .inr (.inr ⟨h',h⟩)
   ·have hj2:j=k:=hi.resolve_left hj;subst hj2;exact .inr (.inl (kdead []))
 refine qgy.gen m (fun _=>False) rfl gen (fun t=>?_);exact qbk.keeps hkk _ (hf.env t)
end
end
end Go.Abs
namespace Go.Abs
noncomputable section
variable {P:Program} {d:Option Tmp} {ty:TypeId} {L:List GOp} {ρ:Type}
section
variable [SU] [qa3] {Q:Exit->ESt->Prop}
def q3c(P:Program)[Tys P](s:ESt)(t n:Nat)(A:Array (Nat×Operand))(K:OD->Option ρ):Option ρ:=match(Tys.c P t).sl with
 |some (e,sz,_)=>match(Tys.c P e).zero,A.toList with
  | some z,[(0,x)]=>bif Nat.beq n 1&&(Nat.beq z.cells.size sz&&(Nat.blt 0 sz&&(Nat.ble sz 16777216&&qj8 [x])))then(match s.eval x with
   |.agg l=>bif Nat.beq l.length sz then K (.cells e l)else none
   | _=>none)else none
  |_,_=>none
 |none=>none
theorem q3b[T:Tys P]{s:ESt}{t n:Nat}{A:Array (Nat×Operand)}{K:ESt->Option ρ}{res:ρ}(hK:∀s',K s'=some res->SLT P L Q s')
  (h:q3c P s t n A (qv4 s d (fun id=>.qbo id [] 0 1) K)=some res):SLT P (⟨d,.buildSlice t n A,ty,none⟩::L) Q s:=by
 refine⟨SL.fair fun hf=>?_⟩;unfold q3c at h;split at h
 ·rename_i e sz by_ hsl;have ht:=(T.ok t).sl _ _ _ hsl;split at h
  ·rename_i z x hz hA;have hzz:=(T.ok e).zero _ hz;obtain⟨hb,g⟩:=qah h;clear h;simp only[zi4]at hb;obtain⟨b1,b2,b3,b4,b5⟩:=hb;obtain rfl:=zi6 b1;generalize hx:s.eval x=E at g;cases E with
   |agg l=>
    obtain⟨b6,h⟩:=qah g;clear g;obtain rfl:=zi6 b6;rw[qfn]at h;have hA':A=partsOf [x]:=by
     cases A;simp only at hA;rw[hA];rfl
    have hev:=(qkq b5).2 s;have hb:=qna hf x;rw[hx]at hev hb;simp only[toV]at hev hb;have hlen:∀id p,(toH s.heap).slot ⟨id,p⟩≠.qae->(s.heap.add s.heap.next (.cells e l)).len id p=s.heap.len id p:=fun id p hb=>by
     have:id≠s.heap.next:=fun e=>hb (hf.next ⟨id,p⟩ (by rw[e];exact zi7 _))
     exact qad.qhg (qad.qtb this) p
    suffices h':SL P (⟨d,.buildSlice t [x].length (partsOf [x]),ty,none⟩::L) (qe9 Q) (qbf s)by rw[hA'];exact h'
    refine SL.q8k (P:=P) (t:=t) (by_:=by_) (e:=e) (z:=z) (us:=[.agg l.length (qa4 s.heap.len l)]) (qbj b2) (by simp only[zjl,List.map_nil,hev]) (fun u hu=>?_) (zi8 b3) (by simpa using zi8 b4)
     (SL.weak (qei (a:={ elem:=e,sz:=l.length,ver:=0,n:=[x].length,get:=fun i j=>(([V.agg l.length (qa4 s.heap.len l)]:List V).getD i .un).row j }) (o:=.cells e l) (u:=.qbo s.heap.next [] 0 1) hf rfl rfl rfl rfl rfl rfl (fun i hi j hj=>?_) d (fun _=>?_)) (hK _ h).out)
    ·rw[zki.1 hu];exact zjg _
    ·have hi:i<1:=hi;obtain rfl:i=0:=by omega
     show Wk (qa4 s.heap.len l j) (qa4 _ l j);rw[qgb hlen l hb];exact Wk.refl _
    ·simp only[toV];exact Wk.refl _
   |_=>cases g
  ·cases h
 ·cases h
theorem qv1:∀(pre:List EV) (u:EV) (l:List EV),qdj (pre++u::l) pre.length=u
 |[],_,_=>rfl
 |_::pre,u,l=>qv1 pre u l
def quk(s:ESt)(U:Ty):List EV->Nat->U.D->List Nat->(U.D->List Nat->Option ρ)->Option ρ
 |[],_,y,ks,K=>K y ks
 |u::l,c,y,ks,K=>match u with
  | .qa7 kk []=>(match s.heap.obj kk with
   | .lst w=>bif qn4 kk ks then none else(match qt2 U y c w.e w.U w.l with
    |some y'=>quk s U l (c+1) y' (kk::ks) K
    | none=>none)
   | _=>none)
  | u=>(match qxj U y c u with
   |some y'=>quk s U l (c+1) y' ks K
   | none=>none)
structure qoa(s:ESt)(U:Ty)(al:List EV)(c:Nat)(y:U.D)(ks:List Nat):Prop where
 done:∀c',c'<c->(∃u,qao U y c'=.ev u/\∀len,Wk (qa4 s.heap.len al c') (toV len u))\/∃kk w,qdj al c'=.qa7 kk []/\kk∈ks/\s.heap.obj kk=.lst w/\qao U y c'=.own w.e w.U w.l
 rest:∀c',c<=c'->qao U y c'=qao U U.z c'
 all:∀c' kk,c'<c->qdj al c'=.qa7 kk []->kk∈ks
 inj:∀c1 c2 kk,c1<c->c2<c->qdj al c1=.qa7 kk []->qdj al c2=.qa7 kk []->c1=c2
 live:∀kk∈ks,∃w,s.heap.obj kk=.lst w
theorem qm7{s:ESt}{U:Ty}{al:List EV}{K:U.D->List Nat->Option ρ}{res:ρ}:∀(l pre:List EV) (c:Nat) (y:U.D) (ks:List Nat),al=pre++l->pre.length=c->qoa s U al c y ks->quk s U l c y ks K=some res ->
  ∃y' ks',qoa s U al al.length y' ks'/\K y' ks'=some res
 | [],pre,c,y,ks,ha,hc,hi,h=>⟨y,ks,by
   have:al.length=c:=by rw[ha,zkd,hc]
   rw[this];exact hi,h⟩
 |u::l,pre,c,y,ks,ha,hc,hi,h=>by
  have hu:qdj al c=u:=by rw[ha,<- hc];exact qv1 pre u l
  have next:∀y' ks',qoa s U al (c+1) y' ks'->quk s U l (c+1) y' ks' K=some res->∃y' ks',qoa s U al al.length y' ks'/\K y' ks'=some res:=fun y' ks' h1 h2=>
   qm7 l (pre++[u]) (c+1) y' ks' (by rw[ha];simp) (by simp[hc]) h1 h2
  unfold quk at h;split at h
  ·rename_i kk;split at h
   ·rename_i w hw;cases hm:qn4 kk ks with
    |true=>rw[hm]at h;cases h
    |false=>
     rw[hm]at h;simp only[cond_false]at h;have hnk:kk∉ks:=fun e=>by rw[qen.2 e]at hm;cases hm
     split at h
     ·rename_i y' hy';obtain⟨o1,o2⟩:=qp3 _ _ _ _ _ _ _ hy';refine next y' (kk::ks) ⟨fun c' hc'=>?_,fun c' hc'=>?_,fun c' k' hc' e=>?_,fun c1 c2 k' h1 h2 e1 e2=>?_,fun k' hk'=>?_⟩ h
      ·by_cases e:c'=c
       ·subst e;exact .inr ⟨kk,w,hu,zjd ..,hw,o1⟩
       ·rcases hi.done c' (by omega)with⟨u',a1,a2⟩|⟨k',w',a1,a2,a3,a4⟩
        ·exact .inl ⟨u',by rw[o2 c' e];exact a1,a2⟩
        ·exact .inr ⟨k',w',a1,zjk _ a2,a3,by rw[o2 c' e];exact a4⟩
      ·rw[o2 c' (by omega)];exact hi.rest c' (by omega)
      ·by_cases e':c'=c
       ·subst e';rw[hu]at e;injection e with e;subst e;exact zjd ..
       ·exact zjk _ (hi.all c' k' (by omega) e)
      ·by_cases q1:c1=c<;>by_cases q2:c2=c
       ·omega
       ·subst q1;rw[hu]at e1;injection e1 with e1;subst e1;exact absurd (hi.all c2 kk (by omega) e2) hnk
       ·subst q2;rw[hu]at e2;injection e2 with e2;subst e2;exact absurd (hi.all c1 kk (by omega) e1) hnk
       ·exact hi.inj c1 c2 k' (by omega) (by omega) e1 e2
      ·rcases zjx.1 hk' with e|e
       ·subst e;exact⟨w,hw⟩
       ·exact hi.live k' e
     ·cases h
   ·cases h
  ·rename_i hns;split at h
   ·rename_i y' hy';obtain⟨_,⟨u',o1,o3⟩,o2⟩:=ql7 _ _ _ _ _ hy';refine next y' ks ⟨fun c' hc'=>?_,fun c' hc'=>?_,fun c' k' hc' e=>?_,fun c1 c2 k' h1 h2 e1 e2=>?_,hi.live⟩ h
    ·by_cases e:c'=c
     ·subst e;refine .inl ⟨u',o1,fun len=>?_⟩;rw[<- qez,hu,EV.qng (qbi _ _ _ _ o1) len s.heap.len];exact o3 _
     ·rcases hi.done c' (by omega)with⟨u',a1,a2⟩|⟨k',w',a1,a2,a3,a4⟩
      ·exact .inl ⟨u',by rw[o2 c' e];exact a1,a2⟩
      ·exact .inr ⟨k',w',a1,a2,a3,by rw[o2 c' e];exact a4⟩
    ·rw[o2 c' (by omega)];exact hi.rest c' (by omega)
    ·by_cases e':c'=c
     ·subst e';rw[hu]at e;exact absurd e (hns k')
     ·exact hi.all c' k' (by omega) e
    ·by_cases q1:c1=c
     ·subst q1;rw[hu]at e1;exact absurd e1 (hns k')
     ·by_cases q2:c2=c
      ·subst q2;rw[hu]at e2;exact absurd e2 (hns k')
      ·exact hi.inj c1 c2 k' (by omega) (by omega) e1 e2
   ·cases h
theorem qoa.start{s:ESt}{U:Ty}{al:List EV}:qoa s U al 0 U.z []:=⟨fun _ h=>absurd h (zjj _),fun _ _=>rfl,fun _ _ h=>absurd h (zjj _),fun _ _ _ h=>absurd h (zjj _),fun _ h=>by cases h⟩
theorem qoa.row{s:ESt}{U:Ty}{al:List EV}{y:U.D}{ks:List Nat}(h:qoa s U al al.length y ks)(hal:al.length=U.sz):q8n s U al y ks where
 cell c:=by
  by_cases hc:c<al.length
  ·rcases h.done c hc with⟨u,a1,a2⟩|⟨kk,w,a1,a2,a3,a4⟩
   ·exact .inl ⟨u,a1,fun _=>a2⟩
   ·exact .inr (.inl ⟨kk,w,a1,a2,a3,a4⟩)
  ·have e:=h.rest c (by omega);cases hx:qao U y c with
   |ev u=>exact .inl ⟨u,rfl,fun hlt=>by omega⟩
   |own t e' l=>
    rw[e]at hx;have:=qoc _ _ _ _ _ hx;subst this;exact .inr (.inr ⟨by omega,t,e',rfl⟩)
 inj c c' kk h1 h2 _:=by
  by_cases hc:c<al.length
  ·by_cases hc':c'<al.length
   ·exact h.inj c c' kk hc hc' h1 h2
   ·rw[qja (by omega)]at h2;cases h2
  ·rw[qja (by omega)]at h1;cases h1
 live:=h.live
def zbl(P:Program)[Tys P][TyE P](s:ESt)(d:Option Tmp)(t:Nat)(x y:Operand)(K:ESt->Option ρ)(no:Option ρ):Option ρ:=match s.eval y with
 | .qbo id2 [] 0 1=>(match s.heap.obj id2 with
  | .cells e2 al=>(match(Tys.c P t).sl with
   | some (e,sz,by_)=>(match(Tys.c P e).zero with
    | some z=>bif Nat.beq z.cells.size sz&&(Nat.beq al.length sz&&Nat.beq e2 e)then(match s.eval x with
     | .qb7=>(match TyE.o P e with
      |some U=>bif Nat.beq U.sz sz then quk s U al 0 U.z [] fun y ks=>grd (okB (1*by_<=140737488355328/\1<=281474976710656)) (bif Nat.ble s.heap.lo s.heap.next&&!qn4 s.heap.next ks then qxv s.heap.next fun k=>K ((s.qyi (k::ks) k (k+1) ⟨e,U,[]++[y]⟩).put d (.qa7 k []))else none)else none
      | none=>none)
     | .qa7 id []=>(match s.heap.obj id with
      |.lst v=>bif Nat.beq v.U.sz sz&&Nat.beq v.e e then quk s v.U al 0 v.U.z [] fun y ks=>grd (okB ((v.l.length+1)*by_<=140737488355328/\v.l.length+1<=281474976710656))
        (bif qn4 id ks then none else bif Nat.ble s.heap.lo id then K ((s.qyi (id::ks) id s.heap.next ⟨v.e,v.U,v.l++[y]⟩).put d (.qa7 id []))
         else bif Nat.ble s.heap.lo s.heap.next&&!qn4 s.heap.next ks then qxv s.heap.next fun k2=>K ((s.qyi (id::ks) k2 (k2+1) ⟨v.e,v.U,v.l++[y]⟩).put d (.qa7 k2 []))else none)else none
      | _=>none)
     | _=>none)else none
    | none=>none)
   | none=>none)
  | _=>no)
 |_=>no
theorem q63[T:Tys P][TE:TyE P]{s:ESt}{t:Nat}{x y:Operand}{K:ESt->Option ρ}{no:Option ρ}{res:ρ}(hK:∀s',K s'=some res->SLT P L Q s')
  (hno:no=some res->SLT P (⟨d,.call { callee:=.builtin .append,args:=#[x,y],argTypes:=#[t,t] },ty,none⟩::L) Q s)
  (h:zbl P s d t x y K no=some res):SLT P (⟨d,.call { callee:=.builtin .append,args:=#[x,y],argTypes:=#[t,t] },ty,none⟩::L) Q s:=by
 unfold zbl at h;split at h
 ·rename_i id2 hy;split at h
  ·rename_i e2 al ho2;refine⟨SL.fair fun hf=>?_⟩;split at h
   ·rename_i e sz by_ hsl;have ht:=(T.ok t).sl _ _ _ hsl;split at h
    ·rename_i z hz;have hzz:=(T.ok e).zero _ hz;obtain⟨hb,h⟩:=qah h;simp only[zi4]at hb;obtain⟨b1,b2,b3⟩:=hb;have b1:=qbj b1;have b2:=qbj b2;have b3:=qbj b3;subst b3;have hy:=eval_eq hy rfl;simp only[toV]at hy;have hs2:=qdh ho2;have src:Src (qbf s) y 1 sz (fun i j=>qa4 s.heap.len al j):=Src.qbo hy hs2 rfl b2;have hunb:∀p,(toH s.heap).slot ⟨s.heap.next,p⟩=.qae:=fun p=>hf.next ⟨s.heap.next,p⟩ (zi7 _);split at h
     ·rename_i hx;have hx:=eval_eq hx rfl;simp only[toV]at hx;split at h
      ·rename_i U hτ;obtain⟨b4,h⟩:=qah h;have b4:=qbj b4;obtain⟨y',ks,hfi,h⟩:=qm7 (al:=al) al [] 0 U.z [] rfl rfl qoa.start h;have hrow:=hfi.row (by rw[b2,b4]);obtain⟨hp,h⟩:=qbs h;obtain⟨p1,p2⟩:=qdo hp;obtain⟨hl,h⟩:=qah h;simp only[zi4,zjo]at hl;obtain⟨hlo,hnm⟩:=hl;have hlo:=zi8 hlo;have hnk:s.heap.next∉ks:=fun e=>by rw[qen.2 e]at hnm;cases hnm
       rw[qfp]at h;refine SL.q3n (P:=P) (t:=t) (by_:=by_) (e:=e2) (z:=z) (o:={ elem:=e2,sz:=sz,ver:=0,n:=0,get:=fun _ _=>.un }) rfl rfl rfl rfl hx b1 src (by omega) p2 (SL.weak ?_ (hK _ h).out);refine qrb (k:=s.heap.next) (k2:=s.heap.next) (nx:=s.heap.next+1) (v1:=⟨e2,U,[]⟩) (y:=y') (al:=al) (ks:=ks) (a1:=qc1.app { elem:=e2,sz:=sz,ver:=0,n:=0,get:=fun _ _=>.un } 1 (fun i j=>qa4 s.heap.len al j)) hf hrow (by rw[b2,b4]) (fun i=>?_) rfl rfl b4 (by simp[qc1.app]) (fun r hr=>absurd hr (zjj _)) (fun c hc=>?_) (fun c r q hr=>absurd hr (zjj _)) (.inl rfl) (by omega) (by omega) (by omega) hlo hnk hnk d (fun _=>Wk.refl _)
       ·show(bif Id.beq i ⟨s.heap.next,[]⟩then _ else(bif Id.beq i ⟨s.heap.next,[]⟩then _ else _))=_;rw[qeh,qeh]
        split<;>rfl
       ·show Wk (bif Nat.blt 0 0 then V.un else qa4 s.heap.len al c) _;exact Wk.refl _
      ·cases h
     ·rename_i id hx;split at h
      ·rename_i v ho;obtain⟨ve,vτ,vl⟩:=v;obtain⟨b4,g⟩:=qah h;clear h;simp only[zi4]at b4;obtain⟨b4,b5⟩:=b4;have b4:=qbj b4;have b5:=qbj b5;subst b5;obtain⟨y',ks,hfi,h⟩:=qm7 (al:=al) al [] 0 vτ.z [] rfl rfl qoa.start g;clear g;have hrow:=hfi.row (by rw[b2,b4]);obtain⟨hp,h⟩:=qbs h;obtain⟨p1,p2⟩:=qdo hp;have hat:s.heap.at id []=some ⟨ve,vτ,vl⟩:=by simp only[qad.at,ho,LV.qa8]
       have hx:=eval_eq hx rfl;simp only[toV,qad.qf0 hat]at hx;have hs:=qb2 hat;have hlive:id<s.heap.next:=Classical.byContradiction fun hn=>by
        have:=hf.next ⟨id,[]⟩ (zj9 hn);rw[hs]at this;cases this
       cases hmk:qn4 id ks with
       |true=>rw[hmk]at h;cases h
       |false=>
        rw[hmk]at h;simp only[cond_false]at h;have hik:id∉ks:=fun e=>by rw[qen.2 e]at hmk;cases hmk
        refine SL.append (P:=P) (t:=t) (by_:=by_) (z:=z) hx hs rfl rfl b4 rfl b1 src p1 p2 ?_;have main:∀k2 nx,(k2=id\/∀p,(toH s.heap).slot ⟨k2,p⟩=.qae)->s.heap.next<=nx->k2<nx->s.heap.lo<=k2->k2∉ks->K ((s.qyi (id::ks) k2 nx ⟨ve,vτ,vl++[y']⟩).put d (.qa7 k2 []))=some res->SL P L (qe9 Q) (((qbf s).on ((qbf s).heap.set ⟨id,[]⟩ (qc1.app (LV.obj s.heap.len id [] ⟨ve,vτ,vl⟩) 1 (fun i j=>qa4 s.heap.len al j)))).put d (.qbo ⟨id,[]⟩ (0+1) 0 (vl.length+1))):=fun k2 nx q1 q2 q3 q4 q6 q5=>by
         refine SL.weak (qrb (k:=id) (k2:=k2) (nx:=nx) (v1:=⟨ve,vτ,vl⟩) (y:=y') (al:=al) (ks:=ks) (a1:=qc1.app (LV.obj s.heap.len id [] ⟨ve,vτ,vl⟩) 1 (fun i j=>qa4 s.heap.len al j)) hf hrow (by rw[b2,b4]) (fun i=>?_) rfl rfl rfl rfl (fun r hr c hc=>?_) (fun c hc=>?_) (fun c r q hr=>?_) q1 q2 (by omega) q3 q4 hik q6 d (fun _=>Wk.refl _)) (hK _ q5).out
         ·show(bif Id.beq i ⟨id,[]⟩then _ else _)=_;exact qeh _ _ _ _
         ·show Wk (bif Nat.blt r vl.length then qbg s.heap.len id [] r c (qao vτ (LV.row ⟨ve,vτ,vl⟩ r) c)else _) _;have hr:r<vl.length:=hr;rw[qdr hr];exact Wk.refl _
         ·show Wk (bif Nat.blt vl.length vl.length then _ else qa4 s.heap.len al c) _;rw[qd5 (zi7 _)];exact Wk.refl _
         ·show(s.heap.obj id).slot _ _ _=_;rw[ho]
        cases hlo:Nat.ble s.heap.lo id with
        |true=>
         rw[hlo]at h;exact main id s.heap.next (.inl rfl) (zi7 _) hlive (zi8 hlo) hik h
        |false=>
         rw[hlo]at h;simp only[cond_false]at h;obtain⟨hl,h⟩:=qah h;simp only[zi4,zjo]at hl;obtain⟨hlo2,hnm⟩:=hl;have hnk:s.heap.next∉ks:=fun e=>by rw[qen.2 e]at hnm;cases hnm
         rw[qfp]at h;exact main s.heap.next (s.heap.next+1) (.inr (fun p=>hf.next ⟨s.heap.next,p⟩ (zi7 _))) (by omega) (by omega) (zi8 hlo2) hnk h
      ·cases h
     ·cases h
    ·cases h
   ·cases h
  ·exact hno h
 ·exact hno h
def q1c(s:ESt):List Operand->Option (Tmp×Nat×List Nat)
 |[]=>none
 | .tmp t::l=>(match s.env t with
  |.qa7 id (c::p)=>some (t,id,c::p)
  | _=>q1c s l)
 |_::l=>q1c s l
theorem qhd{s:ESt}:∀ {l:List Operand} {t:Tmp} {id:Nat} {q:List Nat},q1c s l=some (t,id,q)->s.env t=.qa7 id q
 |[],_,_,_,h=>by cases h
 |x::l,t,id,q,h=>by
  cases x with
  |tmp t'=>
   unfold q1c at h;split at h
   ·rename_i hx;injection h with h;injection h with h1 h;injection h with h2 h3;subst h1;subst h2;subst h3;exact hx
   ·exact qhd (l:=l) h
  |const v=>exact qhd (l:=l) h
  |global g=>exact qhd (l:=l) h
  |func f=>exact qhd (l:=l) h
def zao(id k:Nat)(K:ESt->Option ρ)(s:ESt):Option ρ:=match s.heap.obj id with
 | .hole root p r c u=>(match u with
  | .qa7 k' []=>bif Nat.beq k' k&&!Nat.beq id k then(match s.heap.obj k with
   | .lst w=>root.qpm p fun v back=>grd (Nat.blt r v.l.length) (bif Nat.blt c v.U.sz then(match qt2 v.U (v.l.getD r v.U.z) c w.e w.U w.l with
    | some y=>(match back ⟨v.e,v.U,v.l.set r y⟩with
     |some root'=>shO root'.l fun l=>K (s.att id k (p++[c,r]) ⟨root'.e,root'.U,l⟩)
     | none=>none)
    | none=>none)else none)
   | _=>none)else none
  | _=>none)
 |_=>none
theorem q14{s:ESt}{id k:Nat}{K:ESt->Option ρ}{res:ρ}(h:zao id k K s=some res):∃s',qbz s s'/\K s'=some res:=by
 unfold zao at h;split at h
 ·rename_i root p r c u ho;split at h
  ·rename_i k';obtain⟨hb,h⟩:=qah h;simp only[zi4,zjo]at hb;obtain rfl:=qbj hb.1;have hne:id≠k':=fun e=>by subst e;rw[zjg]at hb;exact absurd hb.2 (by simp)
   split at h
   ·rename_i w hw;obtain⟨v,back,hv,hback,g⟩:=LV.qg2 _ _ _ _ h;clear h;obtain⟨hr,h⟩:=qbs g;clear g;have hr:r<v.l.length:=zi8 hr;obtain⟨hc,h⟩:=qah h;have hc:c<v.U.sz:=zi8 hc;split at h
    ·rename_i y hy;split at h
     ·rename_i root' hp;have hp:=hback _ _ hp;rw[ql3]at h;obtain⟨y1,y2⟩:=qp3 _ _ _ _ _ _ _ hy;exact⟨_,qbz.qy3 hne ho hw hv hr hc y1 y2 hp,h⟩
     ·cases h
    ·cases h
   ·cases h
  ·cases h
 ·cases h
def q1k(s:ESt)(args:List Operand)(F:ESt->(ESt->Option ρ)->Option ρ)(K:ESt->Option ρ):Option ρ:=match q1c s args with
 | some (tx,id,q)=>(match q58 q with
  | some (p,c,r)=>(match s.heap.obj id with
   | .lst root=>root.qpm p fun v _=>grd (Nat.blt r v.l.length) (bif Nat.blt c v.U.sz then(match qr0 v.U c with
    |some (t,e)=>qaj (qr1 v.U (v.l.getD r v.U.z) c e) fun l=>qxv s.heap.next fun k=>F (s.q3x id k (p.length+2) root p r c ⟨t,e,l⟩ tx) (zao id k K)
    | none=>none)else none)
   | _=>none)
  | none=>none)
 |none=>F s K
theorem qxy{s:ESt}{args:List Operand}{F:ESt->(ESt->Option ρ)->Option ρ}{K:ESt->Option ρ}{res:ρ}(h:q1k s args F K=some res) :
  ∃s1 K1,qbz s s1/\F s1 K1=some res/\∀s',K1 s'=some res->∃s'',qbz s' s''/\K s''=some res:=by
 unfold q1k at h;split at h
 ·rename_i tx id q hn;have htx:=qhd hn;split at h
  ·rename_i p c r hl;have hl:=qwg _ _ _ _ hl;split at h
   ·rename_i root ho;obtain⟨v,back,hv,hback,g⟩:=LV.qg2 _ _ _ _ h;clear h;obtain⟨hr,h⟩:=qbs g;clear g;have hr:r<v.l.length:=zi8 hr;obtain⟨hc,h⟩:=qah h;have hc:c<v.U.sz:=zi8 hc;split at h
    ·rename_i t e hte;have hh:=qcd h;clear h;obtain⟨l,hl2,h⟩:=hh;rw[qfp]at h;refine⟨_,_,qgy.fair fun hf=>?_,h,fun s' h'=>q14 h'⟩;have hlive:id<s.heap.next:=Classical.byContradiction fun hn=>by
      have:=hf.next ⟨id,[]⟩ (zj9 hn);have e:(toH s.heap).slot ⟨id,[]⟩=(OD.lst root).slot s.heap.len id []:=by show(s.heap.obj id).slot _ _ _=_;rw[ho]
      rw[e]at this;simp only[OD.slot,LV.qa8]at this;cases this
     exact qbz.q3x (w:=⟨t,e,l⟩) hlive ho hv hr hc (qlh _ _ _ _ _ _ hte hl2) (by rw[htx,hl])
    ·cases h
   ·cases h
  ·cases h
 ·exact⟨s,K,qbz.refl s,h,fun s' h'=>⟨s',qbz.refl s',h'⟩⟩
end
end
end Go.Abs
namespace Go.Abs
open Go
noncomputable section
variable {P:Program} {d:Option Tmp} {ty:TypeId} {L:List GOp} {ρ:Type}
section
variable [SU] [qa3] [qyl] [FFs] {Q:Exit->ESt->Prop}
def ESt.sub(s:ESt)(g:EV->EV)(H:qad):ESt:=⟨s.nt,fun t=>g (s.env t),H⟩
structure Fit(c:Ctr P) where
 ks:List (Option Nat)
 x:DT c.ar
 y:DO c.os
def quj(c:Ctr P)(s:ESt)(us:List EV):Option (Fit c):=
 let ks:=zfl (quy s.heap c.os 0 (q6w (qdj us) c.ar [])) c.os 0
 bif qq9 ks&&(qyo s.heap.next ks&&(q48 0 c.ar&&(qhn c.os c.ro&&Nat.beq c.ar.length us.length)))then(match exT ks (qdj us) c.ar with
  |some x=>match qo5 ks s.heap c.os ks with
   |some y=>some ⟨ks,x,y⟩
   |none=>none
  | none=>none)else none
theorem qlp{c:Ctr P}{s:ESt}{us:List EV}{z:Fit c}(h:quj c s us=some z):qq9 z.ks=true/\qyo s.heap.next z.ks=true/\q48 0 c.ar=true/\qhn c.os c.ro=true/\c.ar.length=us.length/\exT z.ks (qdj us) c.ar=some z.x/\qo5 z.ks s.heap c.os z.ks=some z.y:=by
 unfold quj at h;have hh:=qah h;clear h;obtain⟨hb,h⟩:=hh;simp only[zi4]at hb;split at h
 ·rename_i x hx;split at h
  ·rename_i y hy;injection h with h;subst h;exact⟨hb.1,hb.2.1,hb.2.2.1,hb.2.2.2.1,zi6 hb.2.2.2.2,hx,hy⟩
  ·cases h
 ·cases h
def qq1(c:Ctr P)(s:ESt)(z:Fit c)(d:Option Tmp)(K:ESt->Option ρ):Option ρ:=
 qaj (c.F z.x z.y) fun res=>grd (qn7 s.heap (mkH c.os.length c.ro res.2) z.ks 0) (K ((s.sub (qbb (qfo z.ks)) (qgn s.heap z.ks (mkH c.os.length c.ro res.2))).put d (qgw (qvv z.ks s.heap.next) (mkE c.rv res.1))))
def Ctr.quiet(c:Ctr P):Bool:=isNil c.os&&isNil c.ro
theorem qa0.qvz{H:qbh}{M ι3:Id->Option Nat}{F:Nat->Prop}{w:World}{u:V}{v:Value}(h:qa0 qbh.none ι3 F w u v):qa0 H M F w u v:=
 Ext.of (H:=qbh.none) (M:=ι3) (fun _ h=>h) (fun _ _=>rfl) (fun id=>by unfold qf6 qbh.none;trivial) u v h
structure qgt(P:Program)(g:GOp)(f:FuncId)(us:List EV)(s:ESt):Prop where
 out:∀E M F a w,Rel E M F (qbf s) a w->∃cargs,(execOp a.eval g.oper).run P w=.ok (.enter f cargs) w/\us.length=cargs.size/\∀j,j<cargs.size->qa0 (toH s.heap) M F w (toV s.heap.len (qdj us j)) (cargs.getD j undef)
theorem qj4{c:Ctr P}{s:ESt}{us:List EV}{z:Fit c}{g:GOp}(hq:c.quiet=true)(ha:qgt P g c.f us s)
  (hz:quj c s us=some z) {res:c.rv.D×DO c.ro} (hF:c.F z.x z.y=some res):QO P g (toV s.heap.len (mkE c.rv res.1)) (qbf s):=fun E M F a w r=>by
 obtain⟨cargs,h1,h2,h3⟩:=ha.out E M F a w r;obtain⟨z1,z2,z3,z4,z5,z6,z7⟩:=qlp hz;obtain⟨ks,x,y⟩:=z;obtain⟨f,zb0,ar,os,rv,ro,cF,ok⟩:=c;simp only[Ctr.quiet,zi4]at hq;simp only at x y hF z1 z2 z3 z4 z5 z6 z7 res ok h1 h2 ha ⊢;obtain rfl:=qf1 hq.1;obtain rfl:=qf1 hq.2;simp only[Oper.wp,h1,Oper.upon];have pt:Part (toH s.heap) (toH (mkH 0 [] y)) (mK ks):=qj7 z7 z1;have hR:qiv ks s.heap (mkH 0 [] y) (mK ks):=qgf z7;have r2:=pt.rel r.h;have hargs:∀j,j<(qdf ar x).length->qa0 (toH (mkH 0 [] y)) (mι (mK ks) M) F w (toV (mkH 0 [] y).len (qdj (qdf ar x) j)) (cargs.getD j undef):=fun j hj=>by
  rw[qda]at hj;rw[qi4 z3 j,zjf];have:=qo4 (Z:=fun _=>False) hR ar x z6 j _ _ _ _ _ r.h (h3 j (by omega));rw[qkk]at this;exact this
 refine((ok x y res hF).out _ _ _ _ cargs r2 (by rw[qda];omega) hargs).mono fun e w' ⟨v,ι3,F3,Hx,cv,k1,r3,hv,k4,k5⟩=>?_
 subst k1;subst k4;subst k5;refine⟨cv,F3,rfl,⟨r3.os,r3.tape,r3.output,r3.size,fun b hb=>r3.kept b hb ?_,fun b hb=>?_,fun b hb=>?_,r3.qny⟩,?_⟩
 ·rintro⟨id,h,_⟩;exact h
 ·have:=r3.ext (.fp 0 (fun _=>.any)) (.pointer (some ⟨b,0,none⟩)) ⟨b,0,rfl,hb,fun j hj=>absurd hj (zjj _)⟩;obtain⟨b',o',e1,e2,_⟩:=this;injection e1 with e1;injection e1 with e1;injection e1 with e1;subst e1;exact e2
 ·rcases r3.qx3 b hb with h|⟨id,h,_⟩|h
  ·exact .inl h
  ·exact h.elim
  ·exact .inr h
 ·have hb:qfs qbh.none (toV (mkH 0 [] res.2).len (mkE rv res.1)):=hv.born;rw[qg5 (H:=qbh.none) (len':=s.heap.len) (fun id p h=>absurd rfl h) _ hb];exact qa0.qvz hv
def qus(s:ESt)(f:FuncId)(us:List EV)(d:Option Tmp)(K:ESt->Option ρ):List (Ctr P)->Option ρ
 |[]=>none
 | c::T=>bif Nat.beq c.f f then(match quj c s us with
  |some z=>bif c.quiet then qaj (c.F z.x z.y) (fun res=>K (s.put d (mkE c.rv res.1)))else qq1 c s z d K
  | none=>qus s f us d K T)else qus s f us d K T
theorem Rel.sub{E:Env}{M ι':Id->Option Nat}{F F':Nat->Prop}{s:ESt}{a:Act}{w w':World}(r:Rel E M F (qbf s) a w){H':qad}{g:EV->EV}(hH:qde E ι' F' (toH H') w')
  (he:∀u v,qfs (toH s.heap) (toV s.heap.len u)->qa0 (toH s.heap) M F w (toV s.heap.len u) v->qa0 (toH H') ι' F' w' (toV H'.len (g u)) v) (d:Option Tmp) {u:EV} {v:Value} (hv:qa0 (toH H') ι' F' w' (toV H'.len u) v) :
  Rel E ι' F' (qbf ((s.sub g H').put d u)) (a.put d v) w':=by
 have r1:Rel E ι' F' (qbf (s.sub g H')) a w':=⟨hH,fun t=>he _ _ (r.env t).born (r.env t),r.nt,r.defers⟩
 have:=r1.qgh d hv;rw[qay];exact this
theorem qyd{c:Ctr P}{s:ESt}{us:List EV}{z:Fit c}{g:GOp}{K:ESt->Option ρ}{res:ρ}(hg:g.g=none)(ha:qgt P g c.f us s)(hz:quj c s us=some z)(hK:∀s',K s'=some res->SLT P L Q s')
  (h:qq1 c s z g.dst K=some res):SLT P (g::L) Q s:=by
 obtain⟨y,hF,h⟩:=qcd h;have hh:=qbs h;clear h;obtain⟨hlen,h⟩:=hh;obtain⟨z1,z2,z3,z4,z5,z6,z7⟩:=qlp hz;have hk:=(hK _ h).out;refine⟨⟨fun E M F a w r=>?_⟩⟩;obtain⟨cargs,h1,h2,h3⟩:=ha.out E M F a w r;have hw:g.wanted a.tmps=true:=by unfold GOp.wanted;rw[hg]
 simp only[lwp,hw,if_true,Oper.wp,h1,Oper.upon];refine(qw2 r.h r.fair c z1 z2 z3 z4 z6 z7 hF hlen (by omega) h3).mono fun e w' ⟨cv,ι',F',k1,k2,k3,k4,_⟩=>?_;subst k1;exact hk.out E ι' F' _ _ (r.sub k2 k3 g.dst k4)
theorem qjo{s:ESt}{f:FuncId}{us:List EV}{g:GOp}{K:ESt->Option ρ}{res:ρ}(hg:g.g=none)(ha:qgt P g f us s)(hK:∀s',K s'=some res->SLT P L Q s'):∀ {T:List (Ctr P)},
  qus s f us g.dst K T=some res->SLT P (g::L) Q s
 |[],h=>by cases h
 |c::T,h=>by
  unfold qus at h;cases hb:Nat.beq c.f f with
  |false=>rw[hb]at h;exact qjo hg ha hK (T:=T) h
  |true=>
   rw[hb]at h;obtain rfl:=zi6 hb;simp only[cond_true]at h;split at h
   ·rename_i z hz;cases hq:c.quiet with
    |false=>rw[hq]at h;exact qyd hg ha hz hK h
    |true=>
     rw[hq]at h;have hh:=qcd h;clear h;obtain⟨y,hF,h⟩:=hh;have q:=qj4 hq ha hz hF;obtain⟨gd,gop,gty,gg⟩:=g;simp only at hg;subst hg;refine⟨SL.q q ?_⟩;have:=(hK _ h).out;rwa [qay]at this
   ·exact qjo hg ha hK (T:=T) h
structure zbo(P:Program)(g:GOp)(K:ESt->Prop)(s:ESt):Prop where
 out:SLG P g (zd2 K) (qbf s)
theorem SLG.weak{g:GOp}{K:St->Prop}{st st':St}(w:qgy st st')(h:SLG P g K st'):SLG P g K st:=⟨fun E M F a wd r=>by
 obtain⟨ι',F',r'⟩:=w E M F a wd r;exact h.out E ι' F' a wd r'⟩
theorem SLG.q{g:GOp}{K:St->Prop}{st:St}{u:V}(hg:g.g=none)(h:QO P g u st)(k:K (st.put g.dst u)):SLG P g K st:=⟨fun E M F a w r=>by
 refine⟨hg,Oper.wp_mono (fun a' w' ⟨c,F',e,gr,v⟩=>?_) (h E M F a w r)⟩;subst e;obtain⟨r2,x2⟩:=r.h.grown gr;exact⟨gr.grown,M,F',_,r.put r2 x2 g.dst v,k⟩⟩
variable {K1:ESt->Prop}
theorem qur{c:Ctr P}{s:ESt}{us:List EV}{z:Fit c}{g:GOp}{K:ESt->Option ρ}{res:ρ}(hn:isNil c.os=true)(hg:g.g=none)(ha:qgt P g c.f us s)(hz:quj c s us=some z)(hK:∀s',K s'=some res->K1 s')
  (h:qq1 c s z g.dst K=some res):zbo P g K1 s:=by
 obtain⟨y,hF,h⟩:=qcd h;have hh:=qbs h;clear h;obtain⟨hlen,h⟩:=hh;obtain⟨z1,z2,z3,z4,z5,z6,z7⟩:=qlp hz;refine⟨⟨fun E M F a w r=>⟨hg,?_⟩⟩⟩;obtain⟨cargs,h1,h2,h3⟩:=ha.out E M F a w r;simp only[Oper.wp,h1,Oper.upon];refine(qw2 r.h r.fair c z1 z2 z3 z4 z6 z7 hF hlen (by omega) h3).mono fun e w' ⟨cv,ι',F',k1,k2,k3,k4,k5⟩=>?_;subst k1;exact⟨k5 hn,ι',F',_,r.sub k2 k3 g.dst k4,_,rfl,hK _ h⟩
def qye(s:ESt)(f:FuncId)(us:List EV)(d:Option Tmp)(K:ESt->Option ρ):List (Ctr P)->Option ρ
 |[]=>none
 | c::T=>bif Nat.beq c.f f&&isNil c.os then(match quj c s us with
  |some z=>bif c.quiet then qaj (c.F z.x z.y) (fun res=>K (s.put d (mkE c.rv res.1)))else qq1 c s z d K
  | none=>qye s f us d K T)else qye s f us d K T
theorem qlr{s:ESt}{f:FuncId}{us:List EV}{g:GOp}{K:ESt->Option ρ}{res:ρ}(hg:g.g=none)(ha:qgt P g f us s)(hK:∀s',K s'=some res->K1 s'):∀ {T:List (Ctr P)},
  qye s f us g.dst K T=some res->zbo P g K1 s
 |[],h=>by cases h
 |c::T,h=>by
  unfold qye at h;cases hb:Nat.beq c.f f&&isNil c.os with
  |false=>rw[hb]at h;exact qlr hg ha hK (T:=T) h
  |true=>
   rw[hb]at h;simp only[zi4]at hb;obtain⟨hb,hn⟩:=hb;obtain rfl:=zi6 hb;simp only[cond_true]at h;split at h
   ·rename_i z hz;cases hq:c.quiet with
    |false=>rw[hq]at h;exact qur hn hg ha hz hK h
    |true=>
     rw[hq]at h;have hh:=qcd h;clear h;obtain⟨y,hF,h⟩:=hh;have q:=qj4 hq ha hz hF;refine⟨SLG.q hg q ⟨_,?_,hK _ h⟩⟩;rw[qay]
   ·exact qlr hg ha hK (T:=T) h
structure q8o(c:Ctr P) where
 ks:List (Option Nat)
 x:DT c.ar
 y:DO c.os
 yk:DO c.os
def q8g(c:Ctr P)(s:ESt)(us:List EV):Option (q8o c):=
 let ks:=zfl (quy s.heap c.os 0 (q6w (qdj us) c.ar [])) c.os 0
 bif(qq9 ks&&(qyo s.heap.next ks&&(q48 0 c.ar&&(qhn c.os c.ro&&Nat.beq c.ar.length us.length))))&&q6m c.rv then(match exT ks (qdj (qbx (qil s.heap ks) us)) c.ar with
  |some x=>match qo5 ks s.heap c.os ks with
   |some y=>match qo5 ks (qfz s.heap ks) c.os ks with
    |some yk=>some ⟨ks,x,y,yk⟩
    |none=>none
   |none=>none
  | none=>none)else none
theorem q6i{c:Ctr P}{s:ESt}{us:List EV}{z:q8o c}(h:q8g c s us=some z):(qq9 z.ks=true/\qyo s.heap.next z.ks=true/\q48 0 c.ar=true/\qhn c.os c.ro=true/\c.ar.length=us.length)/\q6m c.rv=true /\
  exT z.ks (qdj (qbx (qil s.heap z.ks) us)) c.ar=some z.x/\qo5 z.ks s.heap c.os z.ks=some z.y/\qo5 z.ks (qfz s.heap z.ks) c.os z.ks=some z.yk:=by
 unfold q8g at h;simp only at h;have hh:=qah h;clear h;obtain⟨hb,h⟩:=hh;simp only[zi4]at hb;obtain⟨⟨h1,h2,h3,h4,h5⟩,h6⟩:=hb;split at h
 ·rename_i x hx;split at h
  ·rename_i y hy;split at h
   ·rename_i yk hyk;injection h with h;subst h;exact⟨⟨h1,h2,h3,h4,qbj h5⟩,h6,hx,hy,hyk⟩
   ·cases h
  ·cases h
 ·cases h
def q9c(c:Ctr P)(z:q8o c)(K:Option ρ):Option ρ:=bif isNil c.os then K else grd (okB (z.y=z.yk)) K
theorem qz5{c:Ctr P}{z:q8o c}{K:Option ρ}{res:ρ}(h:q9c c z K=some res):z.yk=z.y/\K=some res:=by
 unfold q9c at h;cases hn:isNil c.os with
 |false=>
  rw[hn]at h;obtain⟨h1,h2⟩:=qbs h;exact⟨(qdo h1).symm,h2⟩
 |true=>
  rw[hn]at h;obtain⟨ks,x,y,yk⟩:=z;obtain⟨f,zb0,ar,os,rv,ro,cF,ok⟩:=c;obtain rfl:=qf1 hn;exact⟨rfl,h⟩
def qms(c:Ctr P)(s:ESt)(z:q8o c)(d:Option Tmp)(K:ESt->Option ρ):Option ρ:=
 q9c c z (qaj (c.F z.x z.y) fun res=>ffK c.ro res.2 (grd (qn7 s.heap (mkH c.os.length c.ro res.2) z.ks 0) (K ((s.sub (qbb (qfo z.ks)) (qgn s.heap z.ks (mkH c.os.length c.ro res.2))).put d (qgw (qvv z.ks s.heap.next) (mkE c.rv res.1))))))
theorem qmr{c:Ctr P}{s:ESt}{us:List EV}{z:q8o c}{g:GOp}{K:ESt->Option ρ}{res:ρ}(ha:qgt P g c.f us s)(hz:q8g c s us=some z)(h:qms c s z g.dst K=some res){E:Env}{M:Id->Option Nat}{F:Nat->Prop}{a:Act}{w:World}(r:Rel E M F (qbf s) a w) :
  ∃cargs s',K s'=some res/\(execOp a.eval g.oper).run P w=.ok (.enter c.f cargs) w/\Calls P c.f cargs w fun e w'=>∃cv ι' F',e=.returned cv/\Rel E ι' F' (qbf s') (a.put g.dst cv) w'/\(isNil c.os=true->Grown w w'):=by
 obtain⟨he,h⟩:=qz5 h;obtain⟨y,hF,h⟩:=qcd h;obtain⟨hff,h⟩:=q2l _ _ h;have hh:=qbs h;clear h;obtain⟨hlen,h⟩:=hh;obtain⟨⟨z1,z2,z3,z4,z5⟩,z6,z7,z8,z9⟩:=q6i hz;rw[he]at z9;obtain⟨cargs,h1,h2,h3⟩:=ha.out E M F a w r;refine⟨cargs,_,h,h1,?_⟩;refine(q56 r.h r.fair c z1 z2 z3 z4 z7 z8 z9 hF (zep z6 hff) hlen (by omega) (fun j hj=>⟨(h3 j hj).born,h3 j hj⟩)).mono fun e w' ⟨cv,ι',F',k1,k2,k3,k4,k5⟩=>?_;exact⟨cv,ι',F',k1,r.sub k2 k3 g.dst k4,k5⟩
theorem qxx{c:Ctr P}{s:ESt}{us:List EV}{z:q8o c}{g:GOp}{K:ESt->Option ρ}{res:ρ}(hg:g.g=none)(ha:qgt P g c.f us s)(hz:q8g c s us=some z)(hK:∀s',K s'=some res->SLT P L Q s')
  (h:qms c s z g.dst K=some res):SLT P (g::L) Q s:=⟨⟨fun E M F a w r=>by
 obtain⟨cargs,s',hk,h1,h2⟩:=qmr ha hz h r;have hw:g.wanted a.tmps=true:=by unfold GOp.wanted;rw[hg]
 simp only[lwp,hw,if_true,Oper.wp,h1,Oper.upon];refine h2.mono fun e w' ⟨cv,ι',F',k1,k2,_⟩=>?_;subst k1;exact(hK _ hk).out.out E ι' F' _ _ k2⟩⟩
theorem qub{c:Ctr P}{s:ESt}{us:List EV}{z:q8o c}{g:GOp}{K:ESt->Option ρ}{res:ρ}(hn:isNil c.os=true)(hg:g.g=none)(ha:qgt P g c.f us s)(hz:q8g c s us=some z)(hK:∀s',K s'=some res->K1 s')
  (h:qms c s z g.dst K=some res):zbo P g K1 s:=⟨⟨fun E M F a w r=>by
 obtain⟨cargs,s',hk,h1,h2⟩:=qmr ha hz h r;refine⟨hg,?_⟩;simp only[Oper.wp,h1,Oper.upon];refine h2.mono fun e w' ⟨cv,ι',F',k1,k2,k3⟩=>?_;subst k1;exact⟨k3 hn,ι',F',_,k2,_,rfl,hK _ hk⟩⟩⟩
def qxw(s:ESt)(f:FuncId)(us:List EV)(d:Option Tmp)(K:ESt->Option ρ):List (Ctr P)->Option ρ
 |[]=>none
 | c::T=>bif Nat.beq c.f f then(match q8g c s us with
  |some z=>qms c s z d K
  | none=>qxw s f us d K T)else qxw s f us d K T
def zfo:List OSh->Bool
 |[]=>true
 |.cells _ m::l=>q6m.qst m&&zfo l
 |.mp _ U::l=>((qx5 U&&qkb U)&&Nat.blt 0 U.sz)&&zfo l
 |_::l=>zfo l
def qmq(s:ESt)(f:FuncId)(us:List EV):List (Ctr P)->Bool
 |[]=>false
 |c::T=>(Nat.beq c.f f&&(zfo c.ro&&(q8g c s us).isSome))||qmq s f us T
theorem qln{s:ESt}{f:FuncId}{us:List EV}{g:GOp}{K:ESt->Option ρ}{res:ρ}(hg:g.g=none)(ha:qgt P g f us s)(hK:∀s',K s'=some res->SLT P L Q s'):∀ {T:List (Ctr P)},
  qxw s f us g.dst K T=some res->SLT P (g::L) Q s
 |[],h=>by cases h
 |c::T,h=>by
  unfold qxw at h;cases hb:Nat.beq c.f f with
  |false=>rw[hb]at h;exact qln hg ha hK (T:=T) h
  |true=>
   rw[hb]at h;obtain rfl:=zi6 hb;simp only[cond_true]at h;split at h
   ·rename_i z hz;exact qxx hg ha hz hK h
   ·exact qln hg ha hK (T:=T) h
def qsb(s:ESt)(f:FuncId)(us:List EV)(d:Option Tmp)(K:ESt->Option ρ):List (Ctr P)->Option ρ
 |[]=>none
 | c::T=>bif Nat.beq c.f f&&isNil c.os then(match q8g c s us with
  |some z=>qms c s z d K
  | none=>qsb s f us d K T)else qsb s f us d K T
theorem qmp{s:ESt}{f:FuncId}{us:List EV}{g:GOp}{K:ESt->Option ρ}{res:ρ}(hg:g.g=none)(ha:qgt P g f us s)(hK:∀s',K s'=some res->K1 s'):∀ {T:List (Ctr P)},
  qsb s f us g.dst K T=some res->zbo P g K1 s
 |[],h=>by cases h
 |c::T,h=>by
  unfold qsb at h;cases hb:Nat.beq c.f f&&isNil c.os with
  |false=>rw[hb]at h;exact qmp hg ha hK (T:=T) h
  |true=>
   rw[hb]at h;simp only[zi4]at hb;obtain⟨hb,hn⟩:=hb;obtain rfl:=zi6 hb;simp only[cond_true]at h;split at h
   ·rename_i z hz;exact qub hn hg ha hz hK h
   ·exact qmp hg ha hK (T:=T) h
def q9v(f:FuncId):List (Ctr P)->Bool
 |[]=>false
 |c::T=>Nat.beq c.f f||q9v f T
theorem qlk{f:FuncId}:∀ {T:List (Ctr P)},q9v f T=true->qc3 P f
 |[],h=>by cases h
 |c::T,h=>by
  simp only[q9v,zj7]at h;rcases h with h|h
  ·obtain rfl:=zi6 h;exact c.zb0
  ·exact qlk h
theorem ESt.qqy{E:Env}{M:Id->Option Nat}{F:Nat->Prop}{s:ESt}{a:Act}{w:World}(r:Rel E M F (qbf s) a w)(x:Operand):qa0 (toH s.heap) M F w (toV s.heap.len (s.eval x)) (a.eval x):=
 s.qdt x _ _ _ _ _ (r.eval x)
theorem qp5{α:Type}(f:α->EV):∀(l:List α) (j:Nat) (h:j<l.length),qdj (l.map f) j=f l[j]
 |[],_,h=>absurd h (zjj _)
 |a::l,0,_=>rfl
 |a::l,j+1,h=>by simp only[zjl,qdj,List.getElem_cons_succ];exact qp5 f l j (by simpa using h)
theorem qv2:∀(l m:List EV) (j:Nat),qdj (l++m) j=if j<l.length then qdj l j else qdj m (j-l.length)
 |[],m,j=>by simp
 |a::l,m,0=>by simp[qdj]
 |a::l,m,j+1=>by
  simp only[zkh,qdj,qv2 l m j,zi9,Nat.add_lt_add_iff_right]
  split<;>simp
theorem qiu{s:ESt}{f:FuncId}[qc3 P f]{args:Array Operand}{ats:Array TypeId}:qgt P ⟨d,.call { callee:=.value (.func f),args:=args,argTypes:=ats },ty,none⟩ f (args.toList.map s.eval) s:=
 ⟨fun E M F a w r=>⟨args.map a.eval,by simp[execOp,GOp.oper,resolve,Deferred.ofValue,invoke,Act.eval,qfg],by simp,fun j hj=>by
  have hj':j<args.size:=by simpa using hj
  have e2:(args.map a.eval).getD j undef=a.eval args[j]:=by simp[Array.getD,hj']
  rw[e2,qp5 _ _ _ (by simpa using hj')];exact ESt.qqy r _⟩⟩
theorem qw8{s:ESt}{f:FuncId}[qc3 P f]{x:Operand}{l:List EV}{args:Array Operand}{ats:Array TypeId}(hx:s.eval x=.fn f l) :
  qgt P ⟨d,.call { callee:=.value x,args:=args,argTypes:=ats },ty,none⟩ f (args.toList.map s.eval++l) s:=
 ⟨fun E M F a w r=>by
  have hr:=ESt.qqy r x;rw[hx]at hr;simp only[toV]at hr;obtain⟨cs,h1,h2,h3⟩:=hr;refine⟨args.map a.eval++cs,by simp[execOp,GOp.oper,resolve,h1,Deferred.ofValue,invoke,qfg],by simp[h2],fun j hj=>?_⟩;rw[qv2];simp only[zje,zkz];by_cases hj':j<args.size
  ·rw[if_pos hj'];have e2:(args.map a.eval++cs).getD j undef=a.eval args[j]:=by
    rw[zjr,zlb (by simpa using hj')];simp[hj']
   rw[e2,qp5 _ _ _ (by simpa using hj')];exact ESt.qqy r _
  ·rw[if_neg hj'];have hjn:j-args.size<l.length:=by simp at hj;omega
   obtain⟨c,g1,g2⟩:=h3 (j-args.size) hjn;have e2:(args.map a.eval++cs).getD j undef=c:=by
    rw[zjr,Array.getElem?_append_right (by simpa using zj9 hj')];simp[g1]
   rw[e2,qez];exact g2⟩
mutual
def borrow(H:qad):EV->EV
 |.qa7 k p=>match H.at k p with
  |some v=>zex v
  |none=>.un
 |.b x=>.b x
 |.i k n=>.i k n
 |.s x=>.s x
 |.fz U l=>.fz U l
 |.fp U x c=>.fp U x c
 |.st i x=>.st i x
 |.qb7=>.qb7
 |.qek=>.qek
 |.qel=>.qel
 |.qem=>.qem
 |.qju=>.qju
 |.agg l=>.agg (borrows H l)
 |.un=>.un
 |.und=>.un
 |.ptr _ _ _ _=>.un
 |.qbo _ _ _ _=>.un
 |.qca _=>.un
 |.tup _=>.un
 |.fn _ _=>.un
def borrows(H:qad):List EV->List EV
 |[]=>[]
 |a::l=>borrow H a::borrows H l
end
def quv(H:qad)(u:EV)(K:EV->Option ρ):Option ρ:=match u with
 |.qa7 k (c::p)=>H.atK k (c::p) fun v=>K (zex v)
 |u=>K (borrow H u)
theorem quu{H:qad}{u:EV}{K:EV->Option ρ}{res:ρ}(h:quv H u K=some res):K (borrow H u)=some res:=by
 unfold quv at h;split at h
 ·obtain⟨v,h1,h2⟩:=qad.qe6 h;simp only[borrow,h1];exact h2
 ·exact h
def qjp(H:qad):List EV->(List EV->Option ρ)->Option ρ
 |[],K=>K []
 |u::l,K=>quv H u fun a=>qjp H l fun m=>K (a::m)
theorem qfh{H:qad}:∀ {l:List EV} {K:List EV->Option ρ} {res:ρ},qjp H l K=some res->K (borrows H l)=some res
 |[],K,res,h=>h
 |u::l,K,res,h=>qfh (l:=l) (quu (u:=u) h)
theorem qno(H:qad):∀l:List EV,(borrows H l).length=l.length
 |[]=>rfl
 |a::l=>by simp[borrows,qno H l]
theorem qjs.un{H:qbh}(u:V):qjs H u .un:=fun E M F w c r h=>trivial
mutual
theorem qs6(H:qad)(len0:Len):∀u:EV,qjs (toH H) (toV H.len u) (toV len0 (borrow H u))
 |.qa7 k p=>by
  simp only[borrow];cases hv':H.at k p with
  |none=>simp only[toV];exact qjs.un _
  |some v=>
   intro E M F w c r hv;simp only[toV,qad.qf0 hv']at hv;exact q2v hv' r hv (fun b hb=>hb.imp (fun h=>h) fun⟨q,q1,q2⟩=>⟨⟨k,q⟩,q1,q2⟩)
 |.b x=>by simp only[borrow,toV];exact qjs.of (Frz.t _)
 |.i k n=>by simp only[borrow,toV];exact qjs.of (Frz.t _)
 |.s x=>by simp only[borrow,toV];exact qjs.of (Frz.t _)
 |.fz U l=>by simp only[borrow,toV];exact qjs.of (Frz.t _)
 |.fp U x c=>by simp only[borrow,toV];exact qjs.of (Frz.fp _ _)
 |.st i x=>by simp only[borrow,toV];exact qjs.agg fun j hj=>qjs.of (Frz.t _)
 |.qb7=>by simp only[borrow,toV];exact fun E M F w c r h=>h
 |.qek=>by simp only[borrow,toV];exact fun E M F w c r h=>h
 |.qel=>by simp only[borrow,toV];exact fun E M F w c r h=>h
 |.qem=>by simp only[borrow,toV];exact fun E M F w c r h=>h
 |.qju=>by simp only[borrow,toV];exact qjs.of (Frz.t _)
 |.agg l=>by simp only[borrow,toV,qno];exact qjs.agg fun j hj=>qpg H len0 l j
 |.un=>by simp only[borrow,toV];exact qjs.un _
 |.und=>by simp only[borrow,toV];exact qjs.un _
 |.ptr _ _ _ _=>by simp only[borrow,toV];exact qjs.un _
 |.qbo _ _ _ _=>by simp only[borrow,toV];exact qjs.un _
 |.qca _=>by simp only[borrow,toV];exact qjs.un _
 |.tup _=>by simp only[borrow,toV];exact qjs.un _
 |.fn _ _=>by simp only[borrow,toV];exact qjs.un _
theorem qpg(H:qad)(len0:Len):∀(l:List EV) (j:Nat),qjs (toH H) (qa4 H.len l j) (qa4 len0 (borrows H l) j)
 |[],j=>by simp only[borrows,qa4];exact qjs.un _
 |a::l,0=>by simp only[borrows,qa4];exact qs6 H len0 a
 |a::l,j+1=>by simp only[borrows,qa4];exact qpg H len0 l j
end
def qn1:Sh->Bool
 |.b=>true
 |.i _=>true
 |.s=>true
 |.qju=>true
 |.tup [.b]=>true
 |.tup [.i _,.b]=>true
 |.tup [.i _,.i _]=>true
 |_=>false
theorem q5a{len:Len}:∀ {a:Sh} (x:a.D),qn1 a=true->qk5 (toV len (mkE a x))
 |.b,x,_=>by simp only[mkE,toV];exact qk5.bool _
 |.i _,x,_=>by simp only[mkE,toV];exact qk5.int _ _
 |.s,x,_=>by simp only[mkE,toV];exact qk5.str _
 |.qju,x,_=>by simp only[mkE,toV];exact qk5.q5r
 |.tup [.b],x,_=>by
  simp only[mkE,qn3,toV];refine qk5.tup fun j hj=>?_
  match j,hj with
  |0,_=>simp only[qa4,toV];exact qk5.bool _
 |.tup [.i _,.b],x,_=>by
  simp only[mkE,qn3,toV];refine qk5.tup fun j hj=>?_
  match j,hj with
  |0,_=>simp only[qa4,toV];exact qk5.int _ _
  |1,_=>simp only[qa4,toV];exact qk5.bool _
 |.tup [.i _,.i _],x,_=>by
  simp only[mkE,qn3,toV];refine qk5.tup fun j hj=>?_
  match j,hj with
  |0,_=>simp only[qa4,toV];exact qk5.int _ _
  |1,_=>simp only[qa4,toV];exact qk5.int _ _
def noS(us:List EV):ESt:=⟨0,qdj us,mkH 0 [] ()⟩
theorem Ctr.pc{c:Ctr P}{us:List EV}{z:Fit c}(hq:c.quiet=true)(hz:quj c (noS us) us=some z){res:c.rv.D×DO c.ro}(hF:c.F z.x z.y=some res) :
  PC P c.f (us.map (toV (mkH 0 [] ()).len)) (toV (mkH 0 [] ()).len (mkE c.rv res.1)):=⟨fun F w cargs hlt hl ha=>by
 obtain⟨z1,z2,z3,z4,z5,z6,z7⟩:=qlp hz;obtain⟨ks,x,y⟩:=z;obtain⟨f,zb0,ar,os,rv,ro,cF,ok⟩:=c;simp only[Ctr.quiet,zi4]at hq;simp only at x y hF z1 z2 z3 z4 z5 z6 z7 res ok ⊢;obtain rfl:=qf1 hq.1;obtain rfl:=qf1 hq.2;have r0:qde ⟨w,fun _=>False,qbh.none,noι,F⟩ noι F (toH (noS us).heap) w:=qde.start hlt;have pt:Part (toH (noS us).heap) (toH (mkH 0 [] y)) (mK ks):=qj7 z7 z1;have hR:qiv ks (noS us).heap (mkH 0 [] y) (mK ks):=qgf z7;have r2:=pt.rel r0;rw[zje]at hl;have hargs:∀j,j<(qdf ar x).length->qa0 (toH (mkH 0 [] y)) (mι (mK ks) noι) F w (toV (mkH 0 [] y).len (qdj (qdf ar x) j)) (cargs.getD j undef):=fun j hj=>by
  rw[qda]at hj;rw[qi4 z3 j,zjf];have h3:qa0 (toH (noS us).heap) noι F w (toV (noS us).heap.len (qdj us j)) (cargs.getD j undef):=by
   have:=ha j (by rw[zje];omega)
   rw[zi5,zkc]at this;rw[qez,qdn,zi5];cases hu:us[j]? with
   |none=>rw[hu]at this;simp only[Option.getD_none,toV];exact trivial
   |some u=>rw[hu]at this;exact this
  have:=qo4 (Z:=fun _=>False) hR ar x z6 j _ _ _ _ _ r0 h3;rw[qkk]at this;exact this
 refine((ok x y res hF).out _ _ _ _ cargs r2 (by rw[qda];omega) hargs).mono fun e w' ⟨v,ι3,F3,Hx,cv,k1,r3,hv,k4,k5⟩=>?_
 subst k1;subst k4;subst k5;refine⟨cv,F3,rfl,r3.os,r3.tape,r3.output,r3.size,fun b hb=>r3.kept b hb ?_,fun b hb=>?_,fun b hb=>?_,r3.qny,qa0.qvz hv⟩
 ·rintro⟨id,h,_⟩;exact h
 ·have:=r3.ext (.fp 0 (fun _=>.any)) (.pointer (some ⟨b,0,none⟩)) ⟨b,0,rfl,hb,fun j hj=>absurd hj (zjj _)⟩;obtain⟨b',o',e1,e2,_⟩:=this;injection e1 with e1;injection e1 with e1;injection e1 with e1;subst e1;exact e2
 ·rcases r3.qx3 b hb with h|⟨id,h,_⟩|h
  ·exact .inl h
  ·exact h.elim
  ·exact .inr h⟩
theorem qsa{s:ESt}(len0:Len):∀l:List Operand,q8q (qjs (qbf s).heap) (l.map (qbf s).eval) ((borrows s.heap (l.map s.eval)).map (toV len0))
 |[]=>.nil
 |x::l=>.cons (fun E M F w c r h=>qs6 s.heap len0 (s.eval x) E M F w c r (s.qdt x _ _ _ _ _ h)) (qsa len0 l)
theorem qmo{c:Ctr P}{s:ESt}{args:Array Operand}{ats:Array TypeId}{z:Fit c}(hq:c.quiet=true)(hs:qn1 c.rv=true)(hz:quj c (noS (borrows s.heap (args.toList.map s.eval))) (borrows s.heap (args.toList.map s.eval))=some z)
  {res:c.rv.D×DO c.ro} (hF:c.F z.x z.y=some res):QO P ⟨d,.call { callee:=.value (.func c.f),args:=args,argTypes:=ats },ty,none⟩ (toV s.heap.len (mkE c.rv res.1)) (qbf s):=by
 have:=c.zb0;have h1:=QO.qaj (d:=d) (ty:=ty) (ats:=ats) (c.pc hq hz hF) (qsa _ _) (q5a res.1 hs);have e:toV s.heap.len (mkE c.rv res.1)=toV (mkH 0 [] ()).len (mkE c.rv res.1):=by
  have key:∀ {a:Sh} (x:a.D) (len len':Len),qn1 a=true->toV len (mkE a x)=toV len' (mkE a x):=fun {a} x len len' h=>by
   unfold qn1 at h
   split at h<;>first|(simp only[mkE,toV];done)|(simp only[mkE,qn3,toV];congr 1;funext j;match j with
    |0=>simp only[qa4,toV]
    |1=>simp only[qa4,toV]
    | n+2=>simp only[qa4,toV])|cases h
  exact key _ _ _ hs
 rw[e];exact h1
inductive Pn where
 |nil
 |fl (i:Nat) (p:Pn)
 |rd (i:Nat) (p:Pn)
 |qu (l:List Nat) (p:Pn)
 |on (i:Nat) (p:Pn)
 |br (i:Nat) (p q:Pn)
 |no
structure Opt where
 wr:Bool:=false
 tr:Bool:=false
 fr:Bool:=false
 tk:Bool:=false
 md:List Nat:=[]
 rt:List (Nat×Nat):=[]
 ab:List Nat:=[]
 pl:Pn:=.no
def qmv:Op->Bool
 |.makeFunc _ _ _=>true
 |.build _ _=>true
 |.lookup _ _ _ _=>true
 |.slice _ _ _ _ _=>true
 |op=>q6b op
def q5c(P:Program)[Tys P][TyX P](wr:Bool)(ev:Operand->EV)(H:qad)(op:Op)(K:EV->Option ρ):Option ρ:=bif wr then(match op with
 |.binOp o tx x y tY=>match o,ev x,ev y with
  |.add,.i k m,.i k' n=>bif qdy k k' then K (.i k (k.wrap (m+n)))else none
  |.sub,.i k m,.i k' n=>bif qdy k k' then K (.i k (k.wrap (m-n)))else none
  |.mul,.i k m,.i k' n=>bif qdy k k' then K (.i k (k.wrap (m*n)))else none
  |_,_,_=>q7v P ev H (.binOp o tx x y tY) K
 | op=>q7v P ev H op K)else q7v P ev H op K
theorem qvn[T:Tys P][TyX P]{wr:Bool}{s:ESt}{op:Op}{K:EV->Option ρ}{res:ρ}(h:q5c P wr s.eval s.heap op K=some res):∃u,(∀d ty,QV P ⟨d,op,ty,none⟩ (toV s.heap.len u) (qbf s))/\K u=some res:=by
 unfold q5c at h;cases wr with
 |false=>exact qtq h
 |true=>
  simp only[cond_true]at h;split at h
  ·rename_i o tx x y tY;split at h
   all_goals first
    |exact qtq h
    | (rename_i k m k' n hx hy
       have hx:=eval_eq hx rfl;have hy:=eval_eq hy rfl;simp only[toV]at hx hy;have hh:=qah h;clear h;obtain⟨hk,h⟩:=hh;have:=qc6 hk;subst this
       first
        |exact⟨_,fun d ty=>(by simp only[toV];exact O.add hx hy rfl),h⟩
        |exact⟨_,fun d ty=>(by simp only[toV];exact O.sub hx hy rfl),h⟩
        | exact⟨_,fun d ty=>(by simp only[toV];exact O.mul hx hy rfl),h⟩)
  ·exact qtq h
def qle:List EV->List Nat
 |[]=>[]
 |u::l=>qp1 u++qle l
def qsc(s:ESt)(f:FuncId)(bs:List EV)(d:Option Tmp)(K:ESt->Option ρ):List (Ctr P)->Option ρ
 |[]=>none
 | c::T=>bif Nat.beq c.f f&&(c.quiet&&qn1 c.rv)then(match quj c (noS bs) bs with
  |some z=>qaj (c.F z.x z.y) fun res=>K (s.put d (mkE c.rv res.1))
  | none=>qsc s f bs d K T)else qsc s f bs d K T
def qls(s:ESt)(f:FuncId)(us:List EV):List (Ctr P)->Bool
 |[]=>false
 |c::T=>(Nat.beq c.f f&&(quj c s us).isSome)||qls s f us T
def qqf(f:FuncId)(bs:List EV):List (Ctr P)->Bool
 |[]=>false
 |c::T=>(Nat.beq c.f f&&(c.quiet&&(qn1 c.rv&&(quj c (noS bs) bs).isSome)))||qqf f bs T
def zax(T:List (Ctr P))(s:ESt)(f:FuncId)(args:List Operand)(d:Option Tmp)(K:ESt->Option ρ):Option ρ:=
 bif q9v f T then(match qls s f (args.map s.eval) T with
  |true=>qus s f (args.map s.eval) d K T
  |false=>qjp s.heap (args.map s.eval) fun bs=>match qqf f bs T with
   |true=>qsc s f bs d K T
   |false=>match qmq s f (args.map s.eval) T with
    |true=>qxw s f (args.map s.eval) d K T
    | false=>qic s (fun s'=>qus s' f (args.map s'.eval) d K T) (qle (args.map s.eval)))else none
def qcn(wr:Opt)(T:List (Ctr P))[Tys P][TyE P][TyX P](s:ESt)(d:Option Tmp)(op:Op)(K:ESt->Option ρ):Option ρ:=
 bif qmv op then q5c P wr.wr s.eval s.heap op (fun u=>K (s.put d u))else
 match op with
 |.box e x=>zhl e (TyE.c P e) (s.eval x) (qv4 s d (fun id=>.ptr id [] 0 0) K)
 |.alloc e=>q3q P e (qv4 s d (fun id=>.ptr id [] 0 0) K)
 |.store t x y=>qzu P s d t x y K
 |.buildSlice t n A=>qic s (fun s'=>q3a P s' t n A (qv4 s' d (fun id=>.qa7 id []) K)) (qle (A.toList.map fun a=>s.eval a.2))
 |.makeMap t r=>match r with
  |none=>qqa P t (fun o=>qxv s.heap.next fun id=>K ((s.on (s.heap.add id o)).put d (.qca id)))
  |some _=>none
 |.mapUpdate t x y z=>zfx P s d t x y z K
 |.makeSlice t x y=>zd0 P s d t x y K (q9w P s t x y (qv4 s d (fun id=>.qa7 id []) K))
 |.call c=>match c.callee with
  |.value (.func f)=>qkt s c.args.toList fun us=>zax T s f c.args.toList d K
  |.value (.tmp x)=>match s.env x with
   | .fn f l=>qkt s c.args.toList fun us=>bif q9v f T then(match qls s f (us++l) T with
    |true=>qus s f (us++l) d K T
    | false=>qxw s f (us++l) d K T)else none
   |_=>none
  |.builtin .append=>match c.args.toList,c.argTypes.toList with
   |[x,y],[t,t']=>bif Nat.beq t t' then zde s x (fun s'=>zho P s' d t x y K)else none
   |_,_=>none
  |.builtin .clear=>match c.args.toList,c.argTypes.toList with
   |[x],[t]=>q20 P s d t x K
   |_,_=>none
  |_=>none
 |_=>none
def q87(d:Option Tmp)(K:ESt->Option ρ)(s:ESt):Option ρ:=match d with
 |some t=>qvd t 8 s K
 |none=>K s
def qpu(wr:Opt)(T:List (Ctr P))[Tys P][TyE P][TyX P](s:ESt)(d:Option Tmp)(op:Op)(K:ESt->Option ρ):Option ρ:=match op with
 |.load t x=>bif wr.tk then qcn wr T s d (.load t x) (q87 d K)else qcn wr T s d (.load t x) K
 |.store t x y=>bif wr.tk then(bif Nat.blt 0 (Tys.c P t).sz then qk9 s d (Tys.c P t).agg (Tys.c P t).sz (s.eval x) (s.eval y) K (qcn wr T s d (.store t x y) K)else none)else
  bif wr.fr then qic s (fun s'=>qcn wr T s' d (.store t x y) K) (qp1 (s.eval y))else qcn wr T s d (.store t x y) K
 |.buildSlice t n A=>bif wr.tk then q3c P s t n A (qv4 s d (fun id=>.qbo id [] 0 1) K)else qcn wr T s d (.buildSlice t n A) K
 |.call c=>match c.callee with
  |.value _=>bif wr.fr then q1k s c.args.toList (fun s1 K1=>qcn wr T s1 d (.call c) K1) K else qcn wr T s d (.call c) K
  | .builtin .append=>bif wr.tk then(match c.args.toList,c.argTypes.toList with
   |[x,y],[t,t']=>bif Nat.beq t t' then zbl P s d t x y K (qcn wr T s d (.call c) K)else none
   | _,_=>none)else qcn wr T s d (.call c) K
  |_=>qcn wr T s d (.call c) K
 |op=>qcn wr T s d op K
def qma(wr:Opt)(T:List (Ctr P))[Tys P][TyE P][TyX P](s:ESt)(d:Option Tmp)(op:Op)(K:ESt->Option ρ):Option ρ:=match op with
 |.slice t x none (some y) none=>bif wr.tr then qzo P s d t x y K else qcn wr T s d (.slice t x none (some y) none) K
 |.convert src dst x=>match(Tys.c P dst).sl with
  |some _=>q28 P s d src dst x K
  |none=>qcn wr T s d (.convert src dst x) K
 |.binOp o t x y tY=>match zgv s o x y with
  |some (neg,emp)=>bif q1v P t then zh5 s d neg emp K else none
  |none=>qcn wr T s d (.binOp o t x y tY) K
 |op=>bif wr.tk||wr.fr then qpu wr T s d op K else qcn wr T s d op K
theorem qqd{s:ESt}{f:FuncId}{args:Array Operand}{ats:Array TypeId}{K:ESt->Option ρ}{res:ρ}(hK:∀s',K s'=some res->SLT P L Q s'):∀ {T:List (Ctr P)},
  qsc s f (borrows s.heap (args.toList.map s.eval)) d K T=some res->SLT P (⟨d,.call { callee:=.value (.func f),args:=args,argTypes:=ats },ty,none⟩::L) Q s
 |[],h=>by cases h
 |c::T,h=>by
  unfold qsc at h;cases hb:Nat.beq c.f f&&(c.quiet&&qn1 c.rv)with
  |false=>rw[hb]at h;exact qqd hK (T:=T) h
  |true=>
   rw[hb]at h;simp only[zi4]at hb;obtain⟨hb,hq,hs⟩:=hb;obtain rfl:=zi6 hb;simp only[cond_true]at h;split at h
   ·rename_i z hz;have hh:=qcd h;clear h;obtain⟨y,hF,h⟩:=hh;refine⟨SL.q (qmo (d:=d) (ty:=ty) (ats:=ats) hq hs hz hF) ?_⟩;have:=(hK _ h).out;rwa [qay]at this
   ·exact qqd hK (T:=T) h
theorem q6u{T:List (Ctr P)}{s:ESt}{f:FuncId}{args:Array Operand}{ats:Array TypeId}{K:ESt->Option ρ}{res:ρ}(hK:∀s',K s'=some res->SLT P L Q s')
  (h:zax T s f args.toList d K=some res):SLT P (⟨d,.call { callee:=.value (.func f),args:=args,argTypes:=ats },ty,none⟩::L) Q s:=by
 unfold zax at h;have hh:=qah h;clear h;obtain⟨hm,h⟩:=hh;have:=qlk hm;split at h
 ·exact qjo (g:=⟨d,_,ty,none⟩) rfl qiu hK h
 ·have h:=qfh h;split at h
  ·exact qqd hK h
  ·split at h
   ·exact qln (g:=⟨d,_,ty,none⟩) rfl qiu hK h
   ·obtain⟨s',w,h⟩:=qdu _ _ h;exact SLT.weak w (qjo (g:=⟨d,_,ty,none⟩) rfl qiu hK h)
theorem qqe{s:ESt}{f:FuncId}{args:Array Operand}{ats:Array TypeId}{K:ESt->Option ρ}{res:ρ}(hK:∀s',K s'=some res->K1 s'):∀ {T:List (Ctr P)},
  qsc s f (borrows s.heap (args.toList.map s.eval)) d K T=some res->zbo P ⟨d,.call { callee:=.value (.func f),args:=args,argTypes:=ats },ty,none⟩ K1 s
 |[],h=>by cases h
 |c::T,h=>by
  unfold qsc at h;cases hb:Nat.beq c.f f&&(c.quiet&&qn1 c.rv)with
  |false=>rw[hb]at h;exact qqe hK (T:=T) h
  |true=>
   rw[hb]at h;simp only[zi4]at hb;obtain⟨hb,hq,hs⟩:=hb;obtain rfl:=zi6 hb;simp only[cond_true]at h;split at h
   ·rename_i z hz;have hh:=qcd h;clear h;obtain⟨y,hF,h⟩:=hh;refine⟨SLG.q rfl (qmo (d:=d) (ty:=ty) (ats:=ats) hq hs hz hF) ⟨_,?_,hK _ h⟩⟩;rw[qay]
   ·exact qqe hK (T:=T) h
def zed(f:FuncId):List (Ctr P)->Bool
 |[]=>true
 |c::T=>(!(Nat.beq c.f f)||isNil c.os)&&zed f T
def q25(T:List (Ctr P))(s:ESt)(f:FuncId)(args:List Operand)(d:Option Tmp)(K:ESt->Option ρ):Option ρ:=
 bif q9v f T then(match qls s f (args.map s.eval) T with
  |true=>qye s f (args.map s.eval) d K T
  |false=>qjp s.heap (args.map s.eval) fun bs=>match qqf f bs T with
   |true=>qsc s f bs d K T
   |false=>match qmq s f (args.map s.eval) T with
    |true=>qsb s f (args.map s.eval) d K T
    | false=>qic s (fun s'=>qye s' f (args.map s'.eval) d K T) (qle (args.map s.eval)))else none
theorem q24{T:List (Ctr P)}{s:ESt}{f:FuncId}{args:Array Operand}{ats:Array TypeId}{K:ESt->Option ρ}{res:ρ}(hK:∀s',K s'=some res->K1 s')
  (h:q25 T s f args.toList d K=some res):zbo P ⟨d,.call { callee:=.value (.func f),args:=args,argTypes:=ats },ty,none⟩ K1 s:=by
 unfold q25 at h;have hh:=qah h;clear h;obtain⟨hm,h⟩:=hh;have:=qlk hm;split at h
 ·exact qlr (g:=⟨d,_,ty,none⟩) rfl qiu hK h
 ·have h:=qfh h;split at h
  ·exact qqe hK h
  ·split at h
   ·exact qmp (g:=⟨d,_,ty,none⟩) rfl qiu hK h
   ·obtain⟨s',w,h⟩:=qdu _ _ h;exact⟨SLG.weak w (qlr (g:=⟨d,_,ty,none⟩) rfl qiu hK h).out⟩
def zea(T:List (Ctr P))(op:Op):Bool:=match op with
 |.call c=>match c.callee with
  |.value (.func f)=>q9v f T&&zed f T
  |_=>false
 |_=>false
def zgm(T:List (Ctr P))(K:ESt->Option ρ)(g:GOp)(s:ESt):Option ρ:=match g with
 |⟨d,.call c,_,none⟩=>match c.callee with
  |.value (.func f)=>qkt s c.args.toList fun us=>q25 T s f c.args.toList d K
  |_=>none
 |_=>none
theorem q9d{T:List (Ctr P)}{K:ESt->Option ρ}{res:ρ}{g:GOp}{s:ESt}(hK:∀s',K s'=some res->K1 s')(h:zgm T K g s=some res):zbo P g K1 s:=by
 unfold zgm at h;split at h
 ·rename_i d c ty;obtain⟨callee,args,ats⟩:=c;split at h
  ·rename_i f hc;simp only at hc;subst hc;rw[qf2]at h;exact q24 hK h
  ·cases h
 ·cases h
theorem qbm{wr:Opt}{T:List (Ctr P)}[Tys P][TyE P][TyX P]{s:ESt}{op:Op}{K:ESt->Option ρ}{res:ρ}(hK:∀s',K s'=some res->SLT P L Q s')(h:qcn wr T s d op K=some res):SLT P (⟨d,op,ty,none⟩::L) Q s:=by
 unfold qcn at h;cases hp:qmv op with
 |true=>
  rw[hp]at h;simp only[cond_true]at h;obtain⟨u,h1,h2⟩:=qvn h;refine⟨SL.o (h1 d ty) ?_⟩;have:=(hK _ h2).out;rwa [qay]at this
 |false=>
  rw[hp]at h;simp only[cond_false]at h;split at h
  ·exact zaz hK h
  ·exact q3p hK h
  ·exact qzt hK h
  ·obtain⟨s',w,h⟩:=qdu _ _ h;exact SLT.weak w (q29 hK h)
  ·split at h
   ·exact qt9 hK h
   ·cases h
  ·exact q8v hK h
  ·exact q5v hK (fun h=>q5w hK h) h
  ·rename_i c;obtain⟨callee,args,ats⟩:=c;split at h
   ·rename_i f hc;simp only at hc;subst hc;rw[qf2]at h;exact q6u hK h
   ·rename_i x hc;simp only at hc;subst hc;split at h
    ·rename_i f l hx;rw[qf2]at h;have hh:=qah h;clear h;obtain⟨hm,h⟩:=hh;have:=qlk hm;split at h
     ·exact qjo (g:=⟨d,_,ty,none⟩) rfl (qw8 (x:=.tmp x) hx) hK h
     ·exact qln (g:=⟨d,_,ty,none⟩) rfl (qw8 (x:=.tmp x) hx) hK h
    ·cases h
   ·rename_i hc;simp only at hc;subst hc;split at h
    ·rename_i x y t t' ha ht;simp only at ha ht;have hh:=qah h;clear h;obtain⟨hb,h⟩:=hh;obtain rfl:=zi6 hb;obtain⟨al⟩:=args;obtain⟨tl⟩:=ats;simp only at ha ht;subst ha;subst ht;obtain⟨s',w,h⟩:=qzr h;exact⟨SL.fair fun hf=>SL.weak (w hf) (zbk hK h).out⟩
    ·cases h
   ·rename_i hc;simp only at hc;subst hc;split at h
    ·rename_i x t ha ht;simp only at ha ht;obtain⟨al⟩:=args;obtain⟨tl⟩:=ats;simp only at ha ht;subst ha;subst ht;exact q2z hK h
    ·cases h
   ·cases h
  ·cases h
theorem qzs{d:Option Tmp}{K:ESt->Option ρ}{s:ESt}{res:ρ}(h:q87 d K s=some res):∃s',qbz s s'/\K s'=some res:=by
 unfold q87 at h;split at h
 ·exact qoi h
 ·exact⟨s,qbz.refl s,h⟩
theorem qtr{wr:Opt}{T:List (Ctr P)}[Tys P][TyE P][TyX P]{s:ESt}{op:Op}{K:ESt->Option ρ}{res:ρ}(hK:∀s',K s'=some res->SLT P L Q s')(h:qpu wr T s d op K=some res):SLT P (⟨d,op,ty,none⟩::L) Q s:=by
 unfold qpu at h;split at h
 ·cases ht:wr.tk with
  |true=>
   rw[ht]at h;simp only[cond_true]at h;refine qbm (wr:=wr) (T:=T) (fun s' h'=>?_) h;obtain⟨s'',w,h''⟩:=qzs h';exact SLT.weak w (hK _ h'')
  |false=>rw[ht]at h;simp only[cond_true,cond_false]at h;exact qbm (wr:=wr) (T:=T) hK h
 ·cases ht:wr.tk with
  |true=>
   rw[ht]at h;simp only[cond_true]at h;obtain⟨h0,g⟩:=qah h;exact⟨SL.fair fun hf=>ql0 hK h0 (fun h'=>(qbm (wr:=wr) (T:=T) hK h').out) hf g⟩
  |false=>
   rw[ht]at h;simp only[cond_false]at h;cases hf:wr.fr with
   |true=>
    rw[hf]at h;obtain⟨s',w,h'⟩:=qdu _ _ h;exact SLT.weak w (qbm (wr:=wr) (T:=T) hK h')
   |false=>rw[hf]at h;exact qbm (wr:=wr) (T:=T) hK h
 ·cases ht:wr.tk with
  |true=>rw[ht]at h;simp only[cond_true,cond_false]at h;exact q3b hK h
  |false=>rw[ht]at h;simp only[cond_true,cond_false]at h;exact qbm (wr:=wr) (T:=T) hK h
 ·rename_i c;split at h
  ·cases ht:wr.fr with
   |true=>
    rw[ht]at h;simp only[cond_true]at h;obtain⟨s1,K1,w,h1,hk⟩:=qxy h;refine SLT.weak w (qbm (wr:=wr) (T:=T) (fun s' h'=>?_) h1);obtain⟨s'',w',h''⟩:=hk s' h';exact SLT.weak w' (hK _ h'')
   |false=>rw[ht]at h;simp only[cond_true,cond_false]at h;exact qbm (wr:=wr) (T:=T) hK h
  ·rename_i hc;cases ht:wr.tk with
   |true=>
    rw[ht]at h;simp only[cond_true]at h;split at h
    ·rename_i x y t t' ha htt;obtain⟨hb,g⟩:=qah h;clear h;obtain rfl:=qbj hb;obtain⟨callee,⟨al⟩,⟨tl⟩⟩:=c;simp only at ha htt hc;subst ha;subst htt;subst hc;exact q63 hK (fun h'=>qbm (wr:=wr) (T:=T) hK h') g
    ·cases h
   |false=>rw[ht]at h;simp only[cond_true,cond_false]at h;exact qbm (wr:=wr) (T:=T) hK h
  ·exact qbm (wr:=wr) (T:=T) hK h
 ·exact qbm (wr:=wr) (T:=T) hK h
theorem qj0{wr:Opt}{T:List (Ctr P)}[Tys P][TyE P][TyX P]{s:ESt}{op:Op}{K:ESt->Option ρ}{res:ρ}(hK:∀s',K s'=some res->SLT P L Q s')(h:qma wr T s d op K=some res):SLT P (⟨d,op,ty,none⟩::L) Q s:=by
 unfold qma at h;split at h
 ·rename_i t x y;cases ht:wr.tr with
  |true=>rw[ht]at h;exact qzn hK h
  |false=>rw[ht]at h;exact qbm (T:=T) hK h
 ·split at h
  ·exact q27 hK h
  ·exact qbm (T:=T) hK h
 ·split at h
  ·rename_i hq;have hh:=qah h;clear h;obtain⟨hb,h⟩:=hh;exact q9s hK hq hb h
  ·exact qbm (T:=T) hK h
 ·cases ht:wr.tk||wr.fr with
  |true=>rw[ht]at h;exact qtr (T:=T) hK h
  |false=>rw[ht]at h;exact qbm (T:=T) hK h
def q0c(wr:Opt)(T:List (Ctr P))[Tys P][TyE P][TyX P](K:ESt->Option ρ):List GOp->ESt->Option ρ
 |[],s=>K s
 |⟨d,op,ty,none⟩::L,s=>qma wr T s d op (q0c wr T K L)
 |⟨d,op,ty,some (some t,w)⟩::L,s=>match s.env t with
  |.und=>q0c wr T K L (s.put d .und)
  |.b b=>bif Nat.blt t s.nt then
    (bif w then(bif b then qma wr T (s.put (some t) (.b true)) d op (q0c wr T K L)else q0c wr T K L ((s.put (some t) (.b false)).put d .und))
      else(bif b then q0c wr T K L ((s.put (some t) (.b true)).put d .und)else qma wr T (s.put (some t) (.b false)) d op (q0c wr T K L)))else none
  |_=>none
 |⟨_,_,_,some (none,_)⟩::_,_=>none
theorem zes{s:ESt}{t:Nat}{u:EV}(h:s.env t=u):(qbf s).env t=toV s.heap.len u:=by subst h;rfl
theorem ze3{b:Bool}{x y:Option ρ}{r:ρ}(h:(bif b then x else y)=some r):(b=true->x=some r)/\(b=false->y=some r):=by
 cases b
 ·exact⟨fun e=>(by cases e),fun _=>h⟩
 ·exact⟨fun _=>h,fun e=>(by cases e)⟩
theorem qge{wr:Opt}{T:List (Ctr P)}[Tys P][TyE P][TyX P]{K:ESt->Option ρ}{res:ρ}(hK:∀s',K s'=some res->Q .normal s'):∀(L:List GOp) (s:ESt),q0c wr T K L s=some res->SLT P L Q s
 |[],s,h=>⟨SL.nil ⟨s,rfl,hK _ h⟩⟩
 |⟨d,op,ty,none⟩::L,s,h=>qj0 (qge hK L) h
 |⟨d,op,ty,some (some t,w)⟩::L,s,h=>by
  unfold q0c at h;split at h
  ·rename_i hu;have hu:=zes hu;simp only[toV]at hu;refine⟨SL.gu hu ?_⟩;have:=(qge hK L _ h).out;rwa [qay]at this
  ·rename_i b hb;have hb:=zes hb;simp only[toV]at hb;have hh:=qah h;clear h;obtain⟨hlt,h⟩:=hh;have hlt':Nat.blt t (qbf s).nt=true:=hlt;cases w with
   |true=>
    simp only[cond_true]at h;obtain⟨h1,h2⟩:=ze3 h;refine⟨SL.qri (w:=true) rfl hb hlt' (fun e=>?_) (fun e=>?_)⟩
    ·have:=(qj0 (ty:=ty) (qge hK L) (h1 e)).out;rw[qay]at this;exact SL.gy (by rw[qc9,hlt'];rfl) hlt' this
    ·have:=(qge hK L _ (h2 e)).out;rw[qay,qay]at this;exact SL.gn (by rw[qc9,hlt'];rfl) hlt' this
   |false=>
    simp only[cond_false]at h;obtain⟨h1,h2⟩:=ze3 h;refine⟨SL.qri (w:=false) rfl hb hlt' (fun e=>?_) (fun e=>?_)⟩
    ·have:=(qge hK L _ (h1 e)).out;rw[qay,qay]at this;exact SL.gn (by rw[qc9,hlt'];rfl) hlt' this
    ·have:=(qj0 (ty:=ty) (qge hK L) (h2 e)).out;rw[qay]at this;exact SL.gy (by rw[qc9,hlt'];rfl) hlt' this
  ·cases h
 |⟨_,_,_,some (none,_)⟩::_,_,h=>by cases h
end
end
end Go.Abs
namespace Go.Abs
open Go
variable {P:Program} {Q:Exit->St->Prop} {st:St}
def zej(A:Array Oper)(D:List Nat)(i:Nat):Bool:=
 match A[i]? with
 |none=>false
 |some oi=>(List.range A.size).all fun j=>Nat.beq j i||D.contains j||match A[j]? with
   |some oj=>(qea A j).contains i||oi.apart A oj
   |none=>true
def zfr(A:Array Oper)(D:List Nat)(i:Nat):Bool:=
 Nat.blt i A.size&&!D.contains i&&((qea A i).all fun x=>D.contains x)&&Region.noSelect A&&zej A D i&&(D.all fun k=>(qea A k).all fun e=>D.contains e)
end Go.Abs
namespace Go.Abs
open Go
variable {P:Program}
def Nv{α:Type}(P:Program)(s:Sem α):Prop:=∀w x w',s.run P w≠.ok x w'
def Cn{α:Type}(P:Program)(s:Sem α):Prop:=∀w x w',s.run P w=.ok x w'->w'=w/\∀w2,s.run P w2=.ok x w2
def Rd{α:Type}(P:Program)(s:Sem α):Prop:=∀w x w',s.run P w=.ok x w'->w'=w/\∀w2,Grown w w2->s.run P w2=.ok x w2
def Gr{α:Type}(P:Program)(s:Sem α):Prop:=∀w x w',s.run P w=.ok x w'->Grown w w'
section
variable {α β:Type} {s:Sem α} {f:α->Sem β}
theorem Nv.cn(h:Nv P s):Cn P s:=fun w x w' e=>absurd e (h w x w')
theorem Cn.rd(h:Cn P s):Rd P s:=fun w x w' e=>⟨(h w x w' e).1,fun w2 _=>(h w x w' e).2 w2⟩
theorem Rd.gr(h:Rd P s):Gr P s:=fun w x w' e=>by rw[(h w x w' e).1];exact Grown.refl _
theorem Cn.gr(h:Cn P s):Gr P s:=h.rd.gr
theorem Nv.halt(h:Halt):Nv P (.halt h:Sem α):=fun w x w' e=>by cases e
theorem Nv.stuck(why:String):Nv P (Go.stuck why:Sem α):=Nv.halt _
theorem Cn.pure(x:α):Cn P (Pure.pure x:Sem α):=fun w y w' e=>by cases e;exact⟨rfl,fun _=>rfl⟩
theorem q3d(s:Sem α)(f:α->Sem β)(w:World):(s >>= f).run P w=(s.run P w).andThen fun a w=>(f a).run P w:=Sem.run_bind _ _ _ _
theorem qnp{w w':World}{x:β}(h:(s >>= f).run P w=.ok x w'):∃a w1,s.run P w=.ok a w1/\(f a).run P w1=.ok x w':=by
 rw[q3d]at h;cases hs:s.run P w with
 |ok a w1=>rw[hs]at h;exact⟨a,w1,rfl,h⟩
 |halt x w1=>rw[hs]at h;cases h
theorem qw3{w w1:World}{a:α}(h:s.run P w=.ok a w1):(s >>= f).run P w=(f a).run P w1:=by rw[q3d,h];rfl
theorem Nv.bnd(h:∀x,Nv P (f x)):Nv P (s >>= f):=fun w x w' e=>by
 obtain⟨a,w1,_,h2⟩:=qnp e;exact h a _ _ _ h2
theorem Cn.bnd(h:Cn P s)(hf:∀x,Cn P (f x)):Cn P (s >>= f):=fun w x w' e=>by
 obtain⟨a,w1,h1,h2⟩:=qnp e;obtain⟨rfl,g1⟩:=h _ _ _ h1;obtain⟨rfl,g2⟩:=hf _ _ _ _ h2;exact⟨rfl,fun w2=>by rw[qw3 (g1 w2)];exact g2 w2⟩
theorem Rd.bnd(h:Rd P s)(hf:∀x,Rd P (f x)):Rd P (s >>= f):=fun w x w' e=>by
 obtain⟨a,w1,h1,h2⟩:=qnp e;obtain⟨rfl,g1⟩:=h _ _ _ h1;obtain⟨rfl,g2⟩:=hf _ _ _ _ h2;exact⟨rfl,fun w2 g=>by rw[qw3 (g1 w2 g)];exact g2 w2 g⟩
theorem Gr.bnd(h:Gr P s)(hf:∀x,Gr P (f x)):Gr P (s >>= f):=fun w x w' e=>by
 obtain⟨a,w1,h1,h2⟩:=qnp e;exact(h _ _ _ h1).trans (hf _ _ _ _ h2)
theorem Cn.known{a:α}(h:∀w,s.run P w=.ok a w)(hf:Cn P (f a)):Cn P (s >>= f):=fun w x w' e=>by
 rw[qw3 (h w)]at e;obtain⟨rfl,g⟩:=hf _ _ _ e;exact⟨rfl,fun w2=>by rw[qw3 (h w2)];exact g w2⟩
theorem Cn.program:Cn P (Go.program):=fun w x w' e=>by cases e;exact⟨rfl,fun _=>rfl⟩
theorem Cn.ite{c:Prop}[Decidable c]{s t:Sem α}(h:Cn P s)(k:Cn P t):Cn P (if c then s else t):=by split<;>assumption
end
theorem qz4{p:Program}{w:World}{at_:Addr}{u:TypeId}{k:Addr}{atomic:Bool}(h:w.heap[at_.block]?=none):∀r,w.seen p at_ u k atomic≠.ok r:=by
 intro r hr;unfold World.seen at hr;rw[h]at hr;simp only[bind,Except.bind,pure,Except.pure,throw,throwThe,MonadExceptOf.throw]at hr
 repeat' split at hr
 all_goals first|cases hr|skip
theorem qxk{p:Program}{w w':World}(g:Grown w w'){at_:Addr}{u:TypeId}{k:Addr}{atomic:Bool}{r}(h:w.seen p at_ u k atomic=.ok r):w'.seen p at_ u k atomic=.ok r:=by
 rcases Nat.lt_or_ge at_.block w.heap.size with hb|hb
 ·rw[<- h];unfold World.seen;rw[g.kept _ hb]
 ·exact absurd h (qz4 (zk6 hb) r)
theorem q2m{p:Program}{w w':World}(g:Grown w w'){a:Addr}{m:Bool}{r}(h:w.farLoad p a m=.ok r):w'.farLoad p a m=.ok r:=by
 unfold World.farLoad at h ⊢;rcases Nat.lt_or_ge a.block w.heap.size with hb|hb
 ·rw[g.kept _ hb];split at h
  ·rename_i at_ u he;split at h
   ·rename_i r' hv;cases h;have:w'.viewLoad p at_ u a m=.ok r:=by
     rw[<- hv];unfold World.viewLoad at hv ⊢;cases hs:w.seen p at_ u a m with
     |error e=>rw[hs]at hv;cases hv
     |ok q=>rw[qxk g hs]
    simp only[this]
   ·cases h
  ·cases h
 ·rw[zk6 hb]at h;cases h
theorem qyc{w w':World}(g:Grown w w'){a:Addr}{v:Value}(h:w.cell? a=some v):w'.cell? a=some v:=by
 have hb:=Nat.lt_of_not_le fun hn=>by
  unfold World.cell? at h;rw[zk6 hn]at h;cases h
 rw[<- h];unfold World.cell?;rw[g.kept _ hb]
theorem qup{w w':World}(g:Grown w w'){a:Addr}(h:w.cell? a=none)(hb:a.block<w.heap.size):w'.cell? a=none:=by
 rw[<- h];unfold World.cell?;rw[g.kept _ hb]
variable {α:Type}
theorem Rd.load(a:Addr)(m:Mode):Rd P (Go.load a m):=fun w x w' e=>by
 unfold Go.load at e ⊢;simp only[Sem.run]at e ⊢;split at e
 ·rename_i v hv;cases e;exact⟨rfl,fun w2 g=>by rw[qyc g hv]⟩
 ·rename_i hn;split at e
  ·rename_i v q hf;cases e;refine⟨rfl,fun w2 g=>?_⟩;have hb:a.block<w.heap.size:=Nat.lt_of_not_le fun hb=>by
    unfold World.farLoad at hf;rw[zk6 hb]at hf;cases hf
   rw[qup g hn hb,q2m g hf]
  ·cases e
theorem Gr.new(o:Obj):Gr P (newObj o):=fun w x w' e=>by
 cases e;refine⟨by simp,fun b hb=>?_⟩;simp[Array.getElem?_push,Nat.ne_of_lt hb]
theorem Cn.typeInfo(t:TypeId):Cn P (Go.typeInfo t):=by
 unfold Go.typeInfo;refine Cn.bnd Cn.program fun p=>?_;split
 ·exact Cn.pure _
 ·exact(Nv.stuck _).cn
theorem Cn.underlying(t:TypeId):Cn P (Go.underlying t):=by
 unfold Go.underlying;refine Cn.bnd Cn.program fun p=>?_;split
 ·exact Cn.pure _
 ·exact(Nv.stuck _).cn
theorem Cn.sizeOf(t:TypeId):Cn P (Go.sizeOf t):=Cn.bnd (Cn.typeInfo t) fun _=>Cn.pure _
theorem Cn.isAgg(t:TypeId):Cn P (Go.isAgg t):=by
 unfold Go.isAgg;refine Cn.bnd (Cn.underlying t) fun d=>?_
 split<;>exact Cn.pure _
theorem Cn.zeroValue(t:TypeId):Cn P (Go.zeroValue t):=by
 unfold Go.zeroValue;refine Cn.bnd (Cn.typeInfo t) fun d=>?_;split
 ·exact Cn.pure _
 ·exact(Nv.halt _).cn
theorem Cn.sureAddr(v:Value):Cn P (Instr.sureAddr v):=by
 unfold Instr.sureAddr;split
 ·exact Cn.pure _
 ·exact(Nv.stuck _).cn
theorem Rd.loadCellsFrom(a:Addr):∀(n i:Nat) (acc:Array Value),Rd P (Go.loadCellsFrom a i n acc)
 |0,i,acc=>(Cn.pure _).rd
 |n+1,i,acc=>by
  unfold Go.loadCellsFrom;exact Rd.bnd (Rd.load _ _) fun v=>Rd.loadCellsFrom a n (i+1) (acc.push v)
theorem Rd.loadAt(t:TypeId)(v:Value):Rd P (Instr.loadAt t v):=by
 unfold Instr.loadAt Go.loadVar;refine Rd.bnd (Cn.sureAddr v).rd fun a=>Rd.bnd (Cn.isAgg t).rd fun b=>?_;split
 ·refine Rd.bnd (Cn.sizeOf t).rd fun n=>?_;exact Rd.bnd (Rd.loadCellsFrom a n 0 #[]) fun cs=>(Cn.pure _).rd
 ·exact Rd.load _ _
theorem Cn.asIntOf(v:Value):Cn P (Go.asIntOf v):=by
 unfold Go.asIntOf;split
 ·exact Cn.pure _
 ·exact(Nv.halt _).cn
 ·exact(Nv.halt _).cn
theorem Nv.panic(e:RuntimeError):Nv P (Go.runtimePanic e:Sem α):=by
 unfold Go.runtimePanic;refine Nv.bnd fun p=>?_;cases e
 all_goals first
  |exact Nv.halt _
  |exact Nv.bnd fun _=>Nv.bnd fun _=>Nv.halt _
theorem Nv.bounds(k:IntKind)(x y:Int)(c:BoundsCode):Nv P (Go.boundsPanic k x y c:Sem α):=by
 unfold Go.boundsPanic;dsimp only
 split<;>exact Nv.bnd fun _=>Nv.panic _
theorem Cn.fieldAt{t f:Nat}{off s:Nat}{agg:Bool}[h:qaq P t f off agg s](v:Value):Cn P (Instr.fieldAt t v f):=by
 obtain⟨fs,fl,h1,h2,h3,h4⟩:=h.d;have hs:=fun w=>qhs (P:=P) (t:=fl.type) w;have h0:=h.s;unfold Instr.fieldAt;refine Cn.known (fun w=>qal h1 w) ?_;simp only[h2];refine Cn.bnd (Cn.sureAddr v) fun a=>Cn.bnd ?_ fun _=>Cn.pure _;unfold fieldPlace;refine Cn.known hs ?_;rw[if_neg h0];exact Cn.pure _
theorem Cn.indexAt(t:TypeId)(x y:Value):Cn P (Instr.indexAt t x y):=by
 unfold Instr.indexAt;refine Cn.bnd (Cn.asIntOf y) fun ki=>Cn.bnd (Cn.underlying t) fun d=>?_;dsimp only;have key:∀(base:Option Addr) (len:Nat) (elem:TypeId),Cn P (do
   let d' <- Go.underlying t
   match base with
   |some a=>
    if 0<=ki.2/\ki.2<len then Pure.pure (Value.pointer (some (a.add (ki.2.toNat*(<- Go.sizeOf elem)))))
    else if (decide (len <= 1) && (match d' with | .array .. => true | _ => false)) = true then unsupported (.noEntry "op/indexAddr.an index out of range at an array of length 0 or 1 (ledger 616)")
    else boundsPanic ki.1 ki.2 len .index
   | none=>boundsPanic ki.1 ki.2 0 .index):=fun base len elem=>by
  refine Cn.bnd (Cn.underlying t) fun d'=>?_;cases base with
  |some a=>exact Cn.ite (Cn.bnd (Cn.sizeOf _) fun _=>Cn.pure _) (Cn.ite (Nv.halt _).cn (Nv.bounds _ _ _ _).cn)
  |none=>exact(Nv.bounds _ _ _ _).cn
 split
 ·exact Cn.bnd (Cn.sureAddr _) fun a=>Cn.known (a:=(some a,_,_)) (fun w=>rfl) (key (some a) _ _)
 ·exact Cn.known (a:=(_,_,_)) (fun w=>rfl) (key _ _ _)
 ·exact Cn.bnd (Nv.stuck _).cn fun r=>key r.1 r.2.1 r.2.2
end Go.Abs
namespace Go.Abs
open Go
variable {P:Program} {Q:Exit->St->Prop} {st:St}
def Val(P:Program)(o:Oper):Prop:=∀(ρ:Operand->Value) w n w',(execOp ρ o).run P w=.ok n w'->∃v,n=.value v
theorem qdl{s:Sem Value}{w w':World}{n:Next}(h:(do let x <- s;Pure.pure (Next.value x):Sem Next).run P w=.ok n w'):∃v,n=.value v:=by
 obtain⟨a,w1,_,h2⟩:=qnp h;cases h2;exact⟨a,rfl⟩
theorem Rd.val{s:Sem Value}(h:Rd P s):Rd P (do let x <- s;Pure.pure (Next.value x):Sem Next):=Rd.bnd h fun _=>(Cn.pure _).rd
theorem Cn.val{s:Sem Value}(h:Cn P s):Cn P (do let x <- s;Pure.pure (Next.value x):Sem Next):=Cn.bnd h fun _=>Cn.pure _
theorem Gr.val{s:Sem Value}(h:Gr P s):Gr P (do let x <- s;Pure.pure (Next.value x):Sem Next):=Gr.bnd h fun _=>(Cn.pure _).gr
theorem qwn(e:TypeId)(cs:Array Value):Gr P (newRow e cs):=Gr.bnd (Gr.new _) fun _=>(Cn.pure _).gr
theorem q6f(e:TypeId)(v:Value):Gr P (Instr.alloc e true v):=by
 unfold Instr.alloc;refine Gr.bnd (Cn.zeroValue e).gr fun z=>?_;split
 ·rename_i h;cases h
 ·exact Gr.bnd (qwn _ _) fun _=>(Cn.pure _).gr
theorem zee(e:TypeId)(v:Value):Gr P (Instr.box e v):=Gr.bnd (qwn _ _) fun _=>(Cn.pure _).gr
theorem q12(n:Nat):Gr P (askRoom n):=by
 unfold askRoom;split
 ·intro w x w' e;cases e;exact Grown.refl _
 ·exact(Cn.pure _).gr
theorem qsn(q:Question):Gr P (choose q):=fun w x w' e=>by
 unfold choose at e;simp only[Sem.run]at e;split at e<;>(cases e;exact⟨zi7 _,fun _ _=>rfl⟩)
theorem q6e(t:TypeId)(n:Nat)(ps:Array (Nat×Value)):Gr P (Instr.buildSlice t n ps):=by
 unfold Instr.buildSlice
 repeat' first
  |exact(Cn.pure _).gr
  |exact(Nv.halt _).cn.gr
  |exact(Nv.panic _).cn.gr
  |exact qwn _ _
  |exact q12 _
  |exact(Cn.underlying _).gr
  |exact(Cn.sizeOf _).gr
  |exact(Cn.zeroValue _).gr
  |exact(Cn.typeInfo _).gr
  |exact(Cn.asIntOf _).gr
  |exact qsn _
  |refine Gr.bnd ?_ fun _=>?_
  |split
  |dsimp only
theorem zam(t:TypeId)(x y:Value):Gr P (Instr.makeSlice t x y):=by
 unfold Instr.makeSlice asInt
 repeat' first
  |exact(Cn.pure _).gr
  |exact(Nv.halt _).cn.gr
  |exact(Nv.panic _).cn.gr
  |exact qwn _ _
  |exact q12 _
  |exact(Cn.underlying _).gr
  |exact(Cn.sizeOf _).gr
  |exact(Cn.zeroValue _).gr
  |exact(Cn.typeInfo _).gr
  |exact(Cn.asIntOf _).gr
  |exact qsn _
  |refine Gr.bnd ?_ fun _=>?_
  |split
  |dsimp only
def q2a(P:Program)[Tys P](t f:Nat):Bool:=(nth (Tys.c P t).fields f).isSome
theorem qqt[T:Tys P]{t f:Nat}(h:q2a P t f=true)(v:Value):Cn P (Instr.fieldAt t v f):=by
 unfold q2a at h;cases hn:nth (Tys.c P t).fields f with
 |none=>rw[hn]at h;cases h
 |some x=>
  obtain⟨off,a,s⟩:=x;have:=(T.ok t).fld f off a s hn;exact Cn.fieldAt v
theorem Cn.asAgg(v:Value):Cn P (Go.asAgg v):=by
 unfold Go.asAgg;split
 ·exact Cn.pure _
 ·exact(Nv.stuck _).cn
theorem Cn.asBool(v:Value):Cn P (Go.asBool v):=by
 unfold Go.asBool;split
 ·exact Cn.pure _
 ·exact(Nv.stuck _).cn
theorem Cn.part(t:TypeId)(cs:Array Value)(n:Nat):Cn P (Go.part t cs n):=by
 unfold Go.part;refine Cn.bnd (Cn.isAgg t) fun b=>?_;split
 ·exact Cn.bnd (Cn.sizeOf t) fun _=>Cn.pure _
 ·split
  ·exact Cn.pure _
  ·exact(Nv.stuck _).cn
theorem Cn.followBlind:∀(l:List FieldStep) (t:TypeId) (x:Option Value),Cn P (Go.followBlind l t x)
 |[],t,x=>Cn.pure _
 |s::rest,t,x=>by
  unfold Go.followBlind
  repeat' first
   |exact Cn.pure _
   |exact(Nv.stuck _).cn
   |exact Cn.underlying _
   |exact Cn.part _ _ _
   |exact Cn.followBlind rest _ _
   |refine Cn.bnd ?_ fun _=>?_
   |split
   |dsimp only
theorem Cn.nilAhead:∀(n:Nat) (t:TypeId) (v:Value) (s:String),Cn P (Go.nilAhead n t v s)
 |0,t,v,s=>Cn.pure _
 |n+1,t,v,s=>by
  unfold Go.nilAhead
  repeat' first
   |exact Cn.pure _
   |exact(Nv.stuck _).cn
   |exact Cn.underlying _
   |exact Cn.typeInfo _
   |exact Cn.followBlind _ _ _
   |exact Cn.nilAhead n _ _ _
   |refine Cn.bnd ?_ fun _=>?_
   |split
   |dsimp only
theorem Cn.field(t:TypeId)(v:Value)(f:Nat):Cn P (Instr.field t v f):=by
 unfold Instr.field
 repeat' first
  |exact Cn.pure _
  |exact(Nv.stuck _).cn
  |exact Cn.underlying _
  |exact Cn.part _ _ _
  |exact Cn.asAgg _
  |refine Cn.bnd ?_ fun _=>?_
  |split
  |dsimp only
theorem Cn.index(t:TypeId)(x y:Value):Cn P (Instr.index t x y):=by
 unfold Instr.index
 repeat' first
  |exact Cn.pure _
  |exact(Nv.stuck _).cn
  |exact(Nv.bounds _ _ _ _).cn
  |exact Cn.underlying _
  |exact Cn.part _ _ _
  |exact Cn.asIntOf _
  |exact Cn.sizeOf _
  |refine Cn.bnd ?_ fun _=>?_
  |split
  |dsimp only
theorem Cn.extract(v:Value)(n:Nat):Cn P (Instr.extract v n):=by
 unfold Instr.extract
 repeat' first
  |exact Cn.pure _
  |exact(Nv.stuck _).cn
  |split
def Vl(P:Program)(s:Sem Next):Prop:=∀w n w',s.run P w=.ok n w'->∃v,n=.value v
theorem Vl.pure(v:Value):Vl P (Pure.pure (Next.value v)):=fun w n w' e=>by cases e;exact⟨_,rfl⟩
theorem Vl.bnd{α:Type}{s:Sem α}{f:α->Sem Next}(h:∀x,Vl P (f x)):Vl P (s >>= f):=fun w n w' e=>by
 obtain⟨a,w1,_,h2⟩:=qnp e;exact h a _ _ _ h2
theorem Nv.vl{s:Sem Next}(h:Nv P s):Vl P s:=fun w n w' e=>absurd e (h _ _ _)
def cnX:Op->Bool
 |.move _=>true
 |.makeFunc _ _ _=>true
 |.indexAddr _ _ _=>true
 |.nilCheck _=>true
 |.field _ _ _=>true
 |.index _ _ _=>true
 |.extract _ _=>true
 |.pick _ _ _=>true
 |_=>false
theorem qo9{o:Oper}(h:cnX o.op=true):Val P o/\∀ρ,Cn P (execOp ρ o):=by
 obtain⟨dst,op,type,pos,after,guard⟩:=o
 cases op<;>simp only[cnX]at h<;>first
  |(cases h;done)
  |skip
 case move x=>exact⟨fun ρ w n w' e=>by cases e;exact⟨_,rfl⟩,fun ρ=>Cn.pure _⟩
 case makeFunc f a b=>exact⟨fun ρ w n w' h=>qdl h,fun ρ=>Cn.val (Cn.pure _)⟩
 case indexAddr t x y=>exact⟨fun ρ w n w' h=>qdl h,fun ρ=>Cn.val (Cn.indexAt _ _ _)⟩
 case field t x y=>exact⟨fun ρ w n w' h=>qdl h,fun ρ=>Cn.val (Cn.field _ _ _)⟩
 case index t x y=>exact⟨fun ρ w n w' h=>qdl h,fun ρ=>Cn.val (Cn.index _ _ _)⟩
 case extract x y=>exact⟨fun ρ w n w' h=>qdl h,fun ρ=>Cn.val (Cn.extract _ _)⟩
 case pick c x y=>
  refine⟨fun ρ w n w' h=>?_,fun ρ=>Cn.bnd (Cn.asBool _) fun _=>Cn.pure _⟩;obtain⟨a,w1,_,h2⟩:=qnp h;cases h2;exact⟨_,rfl⟩
 case nilCheck x=>
  have key:∀ρ,Cn P (execOp ρ ⟨dst,.nilCheck x,type,pos,after,guard⟩):=fun ρ=>by
   simp only[execOp]
   repeat' first
    |exact Cn.pure _
    |exact(Nv.stuck _).cn
    |exact(Nv.halt _).cn
    |exact(Nv.panic _).cn
    |exact Cn.nilAhead _ _ _ _
    |exact Cn.program
    |refine Cn.bnd ?_ fun _=>?_
    |split
    |dsimp only
  refine⟨fun ρ=>?_,key⟩;show Vl P _;simp only[execOp]
  repeat' first
   |exact Vl.pure _
   |exact(Nv.panic _).vl
   |exact(Nv.halt _).vl
   |refine Vl.bnd fun _=>?_
   |split
   |dsimp only
def q1m(P:Program)[Tys P](c:Call):Bool:=match c.callee with
 | .builtin .len=>(match c.argTypes.toList with
  | [t]=>(match(Tys.c P t).sl with
   |some _=>true
   | none=>false)
  | _=>false)
 |_=>false
theorem qhx[T:Tys P]{c:Call}{d:Option Tmp}{ty:TypeId}{pos:String}{af:Array Go.Edge}{g:Option (Nat×Bool)}(h:q1m P c=true):Val P ⟨d,.call c,ty,pos,af,g⟩/\∀ρ,Cn P (execOp ρ ⟨d,.call c,ty,pos,af,g⟩):=by
 obtain⟨cal,args,ats⟩:=c;unfold q1m at h;split at h
 ·rename_i hc;simp only at hc;subst hc;split at h
  ·rename_i t ht;split at h
   ·rename_i e he;obtain⟨e,s_,b_⟩:=e;have hts:=((T.ok t).sl _ _ _ he).d;obtain rfl:ats=#[t]:=by
     cases ats;simp only at ht;rw[ht]
    have key:∀ρ,execOp ρ ⟨d,.call ⟨.builtin .len,args,#[t]⟩,ty,pos,af,g⟩=(do pure (Next.value (<- Builtin.len_ #[t] ty (args.map ρ)))):=fun ρ=>by
     simp only[execOp,resolve,invoke,builtin];rfl
    have hl:∀ρ,Cn P (Builtin.len_ #[t] ty (args.map ρ)):=fun ρ=>by
     unfold Builtin.len_;split
     ·rename_i t' x hx;obtain rfl:t'=t:=by
       have:=congrArg Prod.fst hx;simpa using this.symm
      refine Cn.known (qal hts) ?_
      repeat' first
       |exact Cn.pure _
       |exact(Nv.stuck _).cn
       |split
      all_goals first|(cases ‹TypeDesc.slice _=_›;done)|skip
     ·exact(Nv.stuck _).cn
    refine⟨fun ρ w n w' h=>?_,fun ρ=>?_⟩
    ·rw[key]at h;exact qdl h
    ·rw[key];exact Cn.val (hl ρ)
   ·cases h
  ·cases h
 ·cases h
def grB(P:Program)[Tys P]:Op->Bool
 |.move _=>true
 |.assign _=>true
 |.load _ _=>true
 |.alloc _=>true
 |.box _ _=>true
 |.buildSlice _ _ _=>true
 |.makeSlice _ _ _=>true
 |.makeFunc _ _ _=>true
 |.indexAddr _ _ _=>true
 |.fieldAddr t _ f=>q2a P t f
 |.call c=>q1m P c
 |op=>cnX op
theorem zef[T:Tys P]{o:Oper}(h:grB P o.op=true):Val P o/\∀ρ,Gr P (execOp ρ o):=by
 obtain⟨dst,op,type,pos,after,guard⟩:=o
 cases op<;>simp only[grB]at h<;>first
  |(simp only[cnX]at h;cases h;done)
  |skip
 all_goals first
  |exact⟨(qo9 (P:=P) (o:=⟨dst,_,type,pos,after,guard⟩) h).1,fun ρ=>((qo9 (P:=P) (o:=⟨dst,_,type,pos,after,guard⟩) h).2 ρ).gr⟩
  |skip
 case move x=>exact⟨fun ρ w n w' e=>by cases e;exact⟨_,rfl⟩,fun ρ=>(Cn.pure _).gr⟩
 case assign x=>exact⟨fun ρ w n w' e=>by cases e;exact⟨_,rfl⟩,fun ρ=>(Cn.pure _).gr⟩
 case alloc e=>exact⟨fun ρ w n w' h=>qdl h,fun ρ=>(q6f _ _).val⟩
 case box e x=>exact⟨fun ρ w n w' h=>qdl h,fun ρ=>(zee _ _).val⟩
 case buildSlice t n ps=>exact⟨fun ρ w n w' h=>qdl h,fun ρ=>(q6e _ _ _).val⟩
 case load t x=>exact⟨fun ρ w n w' h=>qdl h,fun ρ=>(Rd.loadAt _ _).val.gr⟩
 case makeFunc f a b=>exact⟨fun ρ w n w' h=>qdl h,fun ρ=>(Cn.val (Cn.pure _)).gr⟩
 case makeSlice t x y=>exact⟨fun ρ w n w' h=>qdl h,fun ρ=>(zam _ _ _).val⟩
 case call c=>exact⟨(qhx h).1,fun ρ=>((qhx h).2 ρ).gr⟩
 case fieldAddr t x f=>exact⟨fun ρ w n w' h=>qdl h,fun ρ=>(Cn.val (qqt h _)).gr⟩
 case indexAddr t x y=>exact⟨fun ρ w n w' h=>qdl h,fun ρ=>(Cn.val (Cn.indexAt _ _ _)).gr⟩
def rdB(P:Program)[Tys P]:Op->Bool
 |.move _=>true
 |.load _ _=>true
 |.makeFunc _ _ _=>true
 |.indexAddr _ _ _=>true
 |.fieldAddr t _ f=>q2a P t f
 |.call c=>q1m P c
 |op=>cnX op
theorem zdq[T:Tys P]{o:Oper}(h:rdB P o.op=true):Val P o/\∀ρ,Rd P (execOp ρ o):=by
 obtain⟨dst,op,type,pos,after,guard⟩:=o
 cases op<;>simp only[rdB]at h<;>first
  |(simp only[cnX]at h;cases h;done)
  |skip
 all_goals first
  |exact⟨(qo9 (P:=P) (o:=⟨dst,_,type,pos,after,guard⟩) h).1,fun ρ=>((qo9 (P:=P) (o:=⟨dst,_,type,pos,after,guard⟩) h).2 ρ).rd⟩
  |skip
 case move x=>exact⟨fun ρ w n w' e=>by cases e;exact⟨_,rfl⟩,fun ρ=>(Cn.pure _).rd⟩
 case load t x=>exact⟨fun ρ w n w' h=>qdl h,fun ρ=>(Rd.loadAt _ _).val⟩
 case makeFunc f a b=>exact⟨fun ρ w n w' h=>qdl h,fun ρ=>(Cn.val (Cn.pure _)).rd⟩
 case call c=>exact⟨(qhx h).1,fun ρ=>((qhx h).2 ρ).rd⟩
 case fieldAddr t x f=>exact⟨fun ρ w n w' h=>qdl h,fun ρ=>(Cn.val (qqt h _)).rd⟩
 case indexAddr t x y=>exact⟨fun ρ w n w' h=>qdl h,fun ρ=>(Cn.val (Cn.indexAt _ _ _)).rd⟩
def cnB(P:Program)[Tys P](nt:Operand->Bool):Op->Bool
 |.move _=>true
 |.makeFunc _ _ _=>true
 |.indexAddr _ _ _=>true
 |.fieldAddr t _ f=>q2a P t f
 |.call c=>q1m P c
 | .binOp o _ x y _=>(match o with
  |.add=>true
  |.sub=>true
  |.mul=>true
  | _=>false)&&(nt x&&nt y)
 |op=>cnX op
theorem zey[T:Tys P]{o:Oper}{nt:Operand->Bool}{ρ:Operand->Value}(hn:∀x,nt x=true->∃k n,ρ x=.int k n)(h:cnB P nt o.op=true):Val P o/\Cn P (execOp ρ o):=by
 obtain⟨dst,op,type,pos,after,guard⟩:=o
 cases op<;>simp only[cnB]at h<;>first
  |(simp only[cnX]at h;cases h;done)
  |skip
 all_goals first
  |exact⟨(qo9 (P:=P) (o:=⟨dst,_,type,pos,after,guard⟩) h).1,(qo9 (P:=P) (o:=⟨dst,_,type,pos,after,guard⟩) h).2 ρ⟩
  |skip
 case move x=>exact⟨fun ρ w n w' e=>by cases e;exact⟨_,rfl⟩,Cn.pure _⟩
 case makeFunc f a b=>exact⟨fun ρ w n w' h=>qdl h,Cn.val (Cn.pure _)⟩
 case call c=>exact⟨(qhx h).1,(qhx h).2 ρ⟩
 case fieldAddr t x f=>exact⟨fun ρ w n w' h=>qdl h,Cn.val (qqt h _)⟩
 case indexAddr t x y=>exact⟨fun ρ w n w' h=>qdl h,Cn.val (Cn.indexAt _ _ _)⟩
 case binOp o tx x y ty=>
  refine⟨fun ρ w n w' h=>qdl h,Cn.val ?_⟩;simp only[zi4]at h;obtain⟨k,n,hx⟩:=hn x h.2.1;obtain⟨k',n',hy⟩:=hn y h.2.2;rw[hx,hy];have hc:∀o,(o=.add\/o=.sub\/o=.mul)->Cn P (do eqGuard o tx x y (.int k n) (.int k' n');binOp o tx (.int k n) (.int k' n')):=by
   rintro o (rfl|rfl|rfl) <;>
   ·refine Cn.bnd ?_ fun _=>?_
    ·unfold eqGuard;exact Cn.pure _
    ·unfold binOp;dsimp only;split
     ·exact(Nv.halt _).cn
     ·exact Cn.pure _
  exact hc o (by
   have:=h.1
   cases o<;>first|exact .inl rfl|exact .inr (.inl rfl)|exact .inr (.inr rfl)|cases this)
end Go.Abs
