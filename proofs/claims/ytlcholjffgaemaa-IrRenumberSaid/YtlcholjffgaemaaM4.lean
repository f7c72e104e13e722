/-
Texts of the proof, part 4: J2 J3 J4 K3 K4 K6 K7 K5 K8 H7 J5 J6 J7.
No statement of the program is proved here.
-/
import Derived.Test.YtlcholjffgaemaaM3
import Derived.ChangeKeysEq
import Derived.Laws.NewFold
set_option linter.unusedVariables false
set_option linter.unusedSimpArgs false
set_option linter.unusedSectionVars false
namespace Go.Abs
open Go
noncomputable section
variable {P:Program} {d:Option Tmp} {ty:TypeId} {ρ:Type}
def zdr(P:Program)(t:TypeId)(n:Nat)(q:TypeDesc):Bool:=match P.underlying t with
 | some (.array n' e)=>Nat.beq n' n&&(zbr (P.underlying e) q&&(Nat.beq (P.cellsOf e) 1&&((match P.info? e with
  |some i=>Nat.beq i.size 1
  | none=>false)&&!P.eqGuardType P.depth t)))
 |_=>false
where
 zbr:Option TypeDesc->TypeDesc->Bool
 |some (.int k),.int k'=>qdo k k'
 |some .bool,.bool=>true
 |some .string,.string=>true
 |_,_=>false
structure qfp where
 nf:Option Nat:=none
 eq:Option (List TypeDesc):=none
 mp:Option (Bool×TypeId×Ty):=none
 ar:Option (Nat×Nat):=none
 ba:Option (Nat×TypeDesc):=none
def qrf:Option TypeDesc->TypeDesc->Bool
 |some (.int k),.int k'=>qdo k k'
 |some .bool,.bool=>true
 |some .string,.string=>true
 |_,_=>false
theorem quy{o:Option TypeDesc}{x:TypeDesc}(h:qrf o x=true):o=some x:=by
 unfold qrf at h;split at h
 ·rw[qcx h]
 ·rfl
 ·rfl
 ·cases h
def zdo(P:Program):List Field->List TypeDesc->Nat->Bool
 |[],[],_=>true
 | f :: l, x :: m, k => !(f.name == "_") && (Nat.beq f.offset k && (qrf (P.underlying f.type) x && zdo P l m (k + 1)))
 |_,_,_=>false
def eqTy(P:Program)(t:TypeId)(l:List TypeDesc):Bool:=match P.underlying t with
 |some (.struct fs)=>!P.stoodInHeld t&&(!P.eqGuardType P.depth t&&zdo P fs.toList l 0)
 |_=>false
structure qfp.Ok(P:Program)[Tys P](t:TypeId)(c:qfp):Prop where
 nf:∀n,c.nf=some n->∃fs,P.underlying t=some (.struct fs)/\fs.size=n/\(Tys.c P t).fields.length=n
 eq:∀l,c.eq=some l->eqTy P t l=true
 mp:∀s e N,c.mp=some (s,e,N)->zfo P t s e
 ar:∀n s,c.ar=some (n,s)->∃e,qug P t n e s
 ba:∀n q,c.ba=some (n,q)->zdr P t n q=true
theorem qwi{P:Program}{t:TypeId}{n:Nat}{q:TypeDesc}(h:zdr P t n q=true):∃e i,P.underlying t=some (.array n e)/\qrf (P.underlying e) q=true/\P.cellsOf e=1/\P.info? e=some i/\i.size=1/\P.eqGuardType P.depth t=false:=by
 unfold zdr at h;split at h
 ·rename_i n' e hu;simp only[zgz,zhn]at h;obtain⟨h1,h2,h3,h4,h5⟩:=h;obtain rfl:=zg2 h1;split at h4
  ·rename_i i hi;refine⟨e,i,hu,?_,zg2 h3,hi,zg2 h4,h5⟩;unfold zdr.zbr at h2;unfold qrf;exact h2
  ·cases h4
 ·cases h
class TyX(P:Program)[Tys P] where
 x:TypeId->qfp
 ok:∀t,qfp.Ok P t (x t)
section
variable [SU] [qa2]
def EV.isStr:EV->Bool
 |.st _ _=>true
 |.agg _=>true
 |_=>false
def qti(u:EV)(K:List EV->Option ρ):Option ρ:=match u with
 |.st i x=>bif qa2.fro i then K (qc3 0 [] (.st i) x 0 0 (SU.sz i))else none
 |.agg l=>K l
 |.un=>none
 |.und=>none
 |.tup _=>none
 |u=>K [u]
structure qqt(H:qbe)(M:Id->Option Nat)(F:Nat->Prop)(w:World)(len:Len)(l:List EV)(cs:Array Value):Prop where
 sz:cs.size=l.length
 get:∀j,j<l.length->∃c,cs[j]?=some c/\c.oneCell'=true/\qay H M F w (qa3 len l j) c
theorem qiv{u:EV}{K:List EV->Option ρ}{res:ρ}(h:qti u K=some res):∃l,K l=some res/\∀H M F w len v,qay H M F w (toV len u) v->qqt H M F w len l v.cells:=by
 have one:∀u':EV,(∀len,(toV len u').one=true)->∀H M F w len v,qay H M F w (toV len u') v->qqt H M F w len [u'] v.cells:=by
  intro u' ho H M F w len v hv;have hp:=V.qg3 (ho len) hv
  have hc:v.cells=#[v]:=by cases v<;>first|rfl|(simp[Value.oneCell']at hp)
  refine⟨by rw[hc];rfl,fun j hj=>⟨v,?_,hp,?_⟩⟩
  ·have:j=0:=by simpa using hj
   subst this;rw[hc];rfl
  ·have:j=0:=by simpa using hj
   subst this;exact hv
 unfold qti at h;split at h
 ·rename_i i x;obtain⟨hf,h⟩:=qaf h;refine⟨_,h,fun H M F w len v hv=>?_⟩;obtain⟨cs,rfl,h2,h3⟩:=hv;refine⟨by rw[qb0];exact h2,fun j hj=>?_⟩
  rw[qb0]at hj;obtain⟨c,a,b,e⟩:=h3 j hj;refine⟨c,a,b,?_⟩;rw[qds len 0 [] (.st i) x 0 (SU.sz i) 0 j hj,zg9,qif (N:=.st i) hf hj];exact e
 ·rename_i l;refine⟨_,h,fun H M F w len v hv=>?_⟩;obtain⟨cs,rfl,h2,h3⟩:=hv;exact⟨h2,h3⟩
 ·cases h
 ·cases h
 ·cases h
 ·rename_i h1 h2 h3 h4 h5;refine⟨_,h,one u fun len=>?_⟩
  cases u<;>first|(simp only[toV,V.one];done)|exact absurd rfl (h1 _ _)|exact absurd rfl (h2 _)|exact absurd rfl h3|exact absurd rfl h4|exact absurd rfl (h5 _)|(simp only[toV];split<;>rfl)
def quv:List EV->Nat->List EV->List EV
 |l,_,[]=>l
 |[],_,_=>[]
 |_::l,0,v::m=>v::quv l 0 m
 |a::l,n+1,m=>a::quv l n m
theorem qky:∀(l:List EV) (c:Nat) (m:List EV),(quv l c m).length=l.length
 |[],c,m=>by cases m<;>simp[quv]
 |_::_,c,[]=>by simp[quv]
 |_::l,0,_::m=>by simp only[quv,zg1,qky l 0 m]
 |_::l,c+1,v::m=>by simp only[quv,zg1,qky l c (v::m)]
theorem qs5(len:Len):∀(l:List EV) (c:Nat) (m:List EV) (j:Nat),c+m.length<=l.length->qa3 len (quv l c m) j=if c<=j/\j<c+m.length then qa3 len m (j-c)else qa3 len l j
 |l,c,[],j,h=>by
  have:quv l c []=l:=by cases l<;>rfl
  rw[this,if_neg (by simp)]
 |[],c,v::m,j,h=>by simp at h
 |a::l,0,v::m,0,h=>by simp[quv,qa3]
 |a::l,0,v::m,j+1,h=>by
  simp only[quv,qa3,zg1];rw[qs5 len l 0 m j (by simp only[zg1]at h;omega)]
  by_cases hj:j<m.length
  ·rw[if_pos (by omega),if_pos (by omega)];simp only[Nat.sub_zero,qa3]
  ·rw[if_neg (by omega),if_neg (by omega)]
 |a::l,c+1,v::m,0,h=>by simp[quv,qa3]
 |a::l,c+1,v::m,j+1,h=>by
  simp only[quv,qa3];rw[qs5 len l c (v::m) j (by simp only[zg1]at h ⊢;omega)]
  by_cases hj:c<=j/\j<c+(v::m).length
  ·rw[if_pos hj,if_pos (by omega),show j+1-(c+1)=j-c by omega]
  ·rw[if_neg hj,if_neg (by omega)]
def q1a(fs:List (Nat×Bool×Nat))(ev:Operand->EV):List (Nat×Operand)->List EV->(List EV->Option ρ)->Option ρ
 |[],c,K=>K c
 |(i,x)::r,c,K=>match nth fs i with
  |some (off,_,s)=>qti (ev x) fun l=>bif Nat.beq l.length s&&Nat.ble (off+s) c.length then q1a fs ev r (quv c off l) K else none
  |none=>none
def qqn(P:Program)[Tys P][TyX P](ev:Operand->EV)(t:TypeId)(A:List (Nat×Operand))(K:EV->Option ρ):Option ρ:=match(TyX.x P t).nf,(Tys.c P t).zero with
 |some _,some z=>q1a (Tys.c P t).fields ev A (z.cells.toList.map qdr) fun c=>K (.agg c)
 | none,some z=>(match(TyX.x P t).ba with
  |some (n,_)=>q1a ((List.range n).map fun i=>(i,false,1)) ev A (z.cells.toList.map qdr) fun c=>K (.agg c)
  | none=>none)
 |_,_=>none
theorem q08:∀(l:List Value) (o:Nat) (cs:Array Value) (j0:Nat),o+j0+l.length<=cs.size->((l.zipIdx j0).foldl (fun cs (p:Value×Nat)=>cs.setIfInBounds (o+p.2) p.1) cs).size=cs.size /\
  (∀j,j<l.length->((l.zipIdx j0).foldl (fun cs (p:Value×Nat)=>cs.setIfInBounds (o+p.2) p.1) cs)[o+j0+j]?=l[j]?) /\
  (∀x,x<o+j0\/o+j0+l.length<=x->((l.zipIdx j0).foldl (fun cs (p:Value×Nat)=>cs.setIfInBounds (o+p.2) p.1) cs)[x]?=cs[x]?):=by
 intro l
 induction l with
 |nil=>intro o cs j0 _;exact⟨rfl,fun j hj=>absurd hj (zhf _),fun x _=>rfl⟩
 |cons a l ih=>
  intro o cs j0 hsz;simp only[zg1]at hsz;simp only[List.zipIdx_cons,zh8];obtain⟨i1,i2,i3⟩:=ih o (cs.setIfInBounds (o+j0) a) (j0+1) (by simp;omega)
  refine⟨by rw[i1];simp,fun j hj=>?_,fun x hx=>?_⟩
  ·cases j with
   |zero=>
    rw[i3 _ (by omega)];simp[zi7 (show o+j0<cs.size by omega)]
   |succ j=>
    have:=i2 j (by simpa using hj);rw[show o+j0+(j+1)=o+(j0+1)+j by omega,this];simp
  ·rw[i3 x (by simp only[zg1]at hx;omega)]
   rw[zi3 (by simp only[zg1]at hx;omega)]
theorem qqe{fs:List (Nat×Bool×Nat)}{s:ESt}{place:Nat->Option (Nat×Nat)}(hpl:∀i off a n,nth fs i=some (off,a,n)->place i=some (off,n)){res:ρ}:∀(A:List (Nat×Operand)) (c:List EV) (K:List EV->Option ρ),q1a fs s.eval A c K=some res ->
  ∃c',K c'=some res/\∀E M F a w,Rel E M F (qbc s) a w->∀cs,qqt (toH s.heap) M F w s.heap.len c cs->∃cs',Instr.fill place cs (A.map fun p=>(p.1,a.eval p.2))=some cs'/\qqt (toH s.heap) M F w s.heap.len c' cs'
 |[],c,K,h=>⟨c,h,fun E M F a w r cs hc=>⟨cs,rfl,hc⟩⟩
 |(i,x)::A,c,K,h=>by
  simp only[q1a]at h;cases hn:nth fs i with
  |none=>rw[hn]at h;cases h
  |some q=>
   obtain⟨off,ag,n⟩:=q;rw[hn]at h;obtain⟨l,hl,hp⟩:=qiv h;obtain⟨hb,hl⟩:=qaf hl;simp only[zgz]at hb;obtain⟨b1,b2⟩:=hb;have b1:=zg2 b1;have b2:=zg4 b2;obtain⟨c',k1,k2⟩:=qqe hpl A _ K hl;refine⟨c',k1,fun E M F a w r cs hc=>?_⟩;have hv:qay (toH s.heap) M F w (toV s.heap.len (s.eval x)) (a.eval x):=s.qdj x _ _ _ _ _ (r.eval x);have pc:=hp _ _ _ _ _ _ hv;have hcz:=hc.sz;have hsz:(a.eval x).cells.size=n:=by rw[pc.sz,b1]
   have hz:(a.eval x).cells.zipIdx.foldl (fun cs (p:Value×Nat)=>cs.setIfInBounds (off+p.2) p.1) cs=((a.eval x).cells.toList.zipIdx 0).foldl (fun cs (p:Value×Nat)=>cs.setIfInBounds (off+p.2) p.1) cs:=by
    rw[<- Array.foldl_toList,Array.toList_zipIdx]
   obtain⟨g1,g2,g3⟩:=q08 (a.eval x).cells.toList off cs 0 (by simp[hsz];omega)
   obtain⟨cs',r1,r2⟩:=k2 E M F a w r (((a.eval x).cells.toList.zipIdx 0).foldl (fun cs (p:Value×Nat)=>cs.setIfInBounds (off+p.2) p.1) cs) ⟨by rw[g1,qky];exact hcz,fun j hj=>by
    rw[qky]at hj;rw[qs5 _ _ _ _ _ (by omega)];by_cases hin:off<=j/\j<off+l.length
    ·rw[if_pos hin];obtain⟨v,q1,q2,q3⟩:=pc.get (j-off) (by omega);refine⟨v,?_,q2,q3⟩;have:=g2 (j-off) (by simp[hsz];omega)
     rw[zh3,show off+(j-off)=j by omega]at this;rw[this,zh6];exact q1
    ·rw[if_neg hin];obtain⟨v,q1,q2,q3⟩:=hc.get j hj;refine⟨v,?_,q2,q3⟩;rw[g3 j (by simp[hsz];omega)];exact q1⟩
   refine⟨cs',?_,r2⟩;simp only[zhg,Instr.fill,hpl i off ag n hn];rw[if_neg (by simp[hsz];omega),hz]
   exact r1
theorem qoe{w:World}:∀(fs:List Field) (l:List (Nat×Bool×Nat)),fs.length=l.length->(∀i off a n,nth l i=some (off,a,n)->∃fl,fs[i]?=some fl/\fl.offset=off/\qb6 P fl.type a n) ->
  (fs.mapM fun f=>do pure (f.offset,<- sizeOf f.type):Sem (List (Nat×Nat))).run P w=.ok (l.map fun q=>(q.1,q.2.2)) w
 |[],[],_,_=>by simp
 |f::fs,(off,a,n)::l,hl,h=>by
  obtain⟨fl,h1,h2,h3⟩:=h 0 off a n rfl;simp only[List.getElem?_cons_zero,Option.some.injEq]at h1;subst h1;have ih:=qoe (w:=w) fs l (by simpa using hl) (fun i off a n hn=>by
   obtain⟨fl,q1,q2⟩:=h (i+1) off a n hn;exact⟨fl,by simpa using q1,q2⟩)
  simp only[List.mapM_cons,Sem.run_bind,qhh (P:=P) (t:=f.type) w,Result.andThen_ok,Sem.run_pure,ih,h2,zhg]
theorem qtm{α:Type}:∀(l:List α) (i:Nat),nth l i=l[i]?
 |[],i=>by simp[nth]
 |a::l,0=>rfl
 |a::l,i+1=>by simp only[nth,qtm l i];simp
theorem qt6[T:Tys P][X:TyX P]{s:ESt}{t:TypeId}{A:Array (Nat×Operand)}{K:EV->Option ρ}{res:ρ}(h:qqn P s.eval t A.toList K=some res) :
  ∃u,(∀d ty,QV P ⟨d,.build t A,ty,none⟩ (toV s.heap.len u) (qbc s))/\K u=some res:=by
 unfold qqn at h;split at h
 ·rename_i n z hn hz;obtain⟨fs,hu,hsz,hlen⟩:=(X.ok t).nf n hn;have hzero:=(T.ok t).zero z hz;have hfld:∀i off a m,nth (Tys.c P t).fields i=some (off,a,m)->∃fl,fs.toList[i]?=some fl/\fl.offset=off/\qb6 P fl.type a m:=fun i off a m hi=>by
   obtain⟨⟨fs',fl,q1,q2,q3,q4⟩,_⟩:=(T.ok t).fld i off a m hi;rw[hu]at q1;injection q1 with q1;injection q1 with q1;subst q1;exact⟨fl,by rw[zh6];exact q2,q3,q4⟩
  obtain⟨c',k1,k2⟩:=qqe (place:=fun i=>((Tys.c P t).fields.map fun q=>(q.1,q.2.2))[i]?) (fun i off a m hi=>by rw[qtm]at hi;simp[hi]) A.toList _ _ h
  refine⟨_,fun d ty E M F a w r=>?_,k1⟩;obtain⟨cs',r1,r2⟩:=k2 E M F a w r z.cells ⟨by simp,fun j hj=>by
   have hj:j<z.cells.size:=by simpa using hj
   refine⟨z.cells[j],zhp hj,zi2.1 hzero.c _ (Array.getElem_mem hj),?_⟩;rw[qde,zg0];simp only[zh5,zh6,zhp hj,zii,zhi,qc7];exact V.qhp _ _ _ _ _⟩
  have hp:=qoe (P:=P) (w:=w) fs.toList (Tys.c P t).fields (by simp[hsz,hlen]) hfld;have hp2:(fs.mapM fun f=>do pure (f.offset,<- sizeOf f.type):Sem (Array (Nat×Nat))).run P w=.ok ((Tys.c P t).fields.map fun q=>(q.1,q.2.2)).toArray w:=by
   rw[Array.mapM_eq_mapM_toList];rw[Sem.run_map];exact(congrArg (fun r=>Result.andThen r _) hp).trans rfl
  refine⟨.agg cs',?_,cs',rfl,r2.sz,r2.get⟩;have hr1:Instr.fill (fun i=>((Tys.c P t).fields.map fun q=>(q.1,q.2.2)).toArray[i]?) z.cells ((A.map fun p=>(p.1,a.eval p.2)).toList)=some cs':=by
   rw[<- r1];simp
  simp only[execOp,GOp.oper,Instr.build,Sem.run_bind,qil (P:=P) (t:=t) (v:=z),Result.andThen_ok,qai hu,hp2];simp only[hr1,Sem.run_pure,Result.andThen_ok]
 ·rename_i z hn hz;split at h
  ·rename_i n q hb;obtain⟨e,i,hu,-,h1,hi,-,-⟩:=qwi ((X.ok t).ba n q hb);have hzero:=(T.ok t).zero z hz;obtain⟨c',k1,k2⟩:=qqe (place:=fun j=>some (j*P.cellsOf e,P.cellsOf e)) (fun j off a m hj=>by
    rw[qtm]at hj;simp only[zh5]at hj;cases hr:(List.range n)[j]? with
    |none=>rw[hr]at hj;cases hj
    |some x=>
     rw[hr]at hj;obtain⟨hl,hx⟩:=zi0.1 hr;simp only[zin]at hx;simp only[zii,Option.some.injEq,Prod.mk.injEq]at hj;rw[h1];simp[<- hj.1,<- hj.2.2,hx]) A.toList _ _ h
   refine⟨_,fun d ty E M F a w r=>?_,k1⟩;obtain⟨cs',r1,r2⟩:=k2 E M F a w r z.cells ⟨by simp,fun j hj=>by
    have hj:j<z.cells.size:=by simpa using hj
    refine⟨z.cells[j],zhp hj,zi2.1 hzero.c _ (Array.getElem_mem hj),?_⟩;rw[qde,zg0];simp only[zh5,zh6,zhp hj,zii,zhi,qc7];exact V.qhp _ _ _ _ _⟩
   refine⟨.agg cs',?_,cs',rfl,r2.sz,r2.get⟩;have hr1:Instr.fill (fun j=>some (j*P.cellsOf e,P.cellsOf e)) z.cells ((A.map fun p=>(p.1,a.eval p.2)).toList)=some cs':=by
    rw[<- r1];simp
   simp only[execOp,GOp.oper,Instr.build,Sem.run_bind,qil (P:=P) (t:=t) (v:=z),Result.andThen_ok,qai hu,run_sizeOf w hi];simp only[hr1,Sem.run_pure,Result.andThen_ok]
  ·cases h
 ·cases h
def eqE:TypeDesc->EV->EV->Option Bool
 |.int q,.i k m,.i k' n=>bif qdo k q&&qdo k' q then some (decide (m=n))else none
 |.bool,.b a,.b b=>some (a==b)
 |.string,.s a,.s b=>some (a.toList==b.toList)
 |_,_,_=>none
def q82:List TypeDesc->List EV->List EV->(Bool->Option ρ)->Option ρ
 |[],[],[],K=>K true
 |[x],[a],[b],K=>match eqE x a b with
  |some r=>K r
  |none=>none
 |x::q,a::l,b::m,K=>match eqE x a b with
  |some r=>q82 q l m fun q=>K (r&&q)
  |none=>none
 |_,_,_,_=>none
def q47(P:Program)[Tys P][TyX P](neg:Bool)(t:TypeId)(u v:EV)(K:EV->Option ρ):Option ρ:=match(TyX.x P t).eq with
 |some q=>qti u fun l=>qti v fun m=>q82 q l m fun r=>K (.b (bif neg then !r else r))
 |none=>match(TyX.x P t).ba with
  |some (n,q)=>qti u fun l=>qti v fun m=>q82 (List.replicate n q) l m fun r=>K (.b (bif neg then !r else r))
  |none=>none
def eqV:List TypeDesc->List EV->List EV->Option Bool
 |[],[],[]=>some true
 |x::q,a::l,b::m=>match eqE x a b,eqV q l m with
  |some r,some q=>some (r&&q)
  |_,_=>none
 |_,_,_=>none
theorem q1m:∀(q:List TypeDesc) (l m:List EV) (K:Bool->Option ρ) (res:ρ),q82 q l m K=some res->∃r,eqV q l m=some r/\K r=some res:=by
 intro q
 induction q with
 |nil=>
  intro l m K res h
  cases l<;>cases m<;>first|exact⟨true,rfl,h⟩|cases h
 |cons x q ih=>
  intro l m K res h;cases l with
  |nil=>cases q<;>cases m<;>cases h
  |cons a l=>
   cases m with
   |nil=>cases q<;>cases l<;>cases h
   |cons b m=>
    cases he:eqE x a b with
    |none=>cases q<;>cases l<;>cases m<;>simp only[q82,he]at h<;>cases h
    |some r=>
     have gen:q82 q l m (fun q=>K (r&&q))=some res->∃r,eqV (x::q) (a::l) (b::m)=some r/\K r=some res:=fun h=>by
      obtain⟨q',h1,h2⟩:=ih l m _ res h;exact⟨r&&q',by simp only[eqV,he,h1],h2⟩
     cases q<;>cases l<;>cases m<;>simp only[q82,he]at h<;>first|exact gen h|(cases h;done)|exact⟨r,by simp[eqV,he],h⟩
theorem qk3{t:TypeId}{x:TypeDesc}(h:qrf (P.underlying t) x=true){cs:Array Value}{k:Nat}{c:Value}(hc:cs[k]?=some c)(w:World):(part t cs k).run P w=.ok c w:=by
 have hu:=quy h;have:(isAgg t).run P w=.ok false w:=by
  unfold isAgg;rw[Sem.run_bind,qai hu];rw[hu]at h
  cases x<;>first|(cases h;done)|rfl
 simp only[part,Sem.run_bind,this,Result.andThen_ok,hc];rfl
theorem qox{t:TypeId}{td:TypeDesc}(h:qrf (P.underlying t) td=true){dp:Nat}{H:qbe}{M:Id->Option Nat}{F:Nat->Prop}{w:World}{len:Len}{a b:EV}{r:Bool}(he:eqE td a b=some r){x y:Value}(hx:qay H M F w (toV len a) x)(hy:qay H M F w (toV len b) y) :
  (Op.equalIn (dp+1) t x y).run P w=.ok r w:=by
 have hu:=quy h;unfold eqE at he;split at he
 ·rename_i q k m k' n;have hh:=qaf he;clear he;obtain⟨hb,he⟩:=hh;simp only[zgz]at hb;have h1:=qcx hb.1;have h2:=qcx hb.2;subst h1;subst h2;injection he with he;have hx:x=.int k' m:=hx;have hy:y=.int k' n:=hy;subst hx;subst hy;rw[run_equalIn_int w dp t k' k' m n hu,<- he];rw[Bool.beq_eq_decide_eq]
 ·injection he with he;have hx:x=.bool _:=hx;have hy:y=.bool _:=hy;subst hx;subst hy;rw[run_equalIn_bool' w dp t _ _ hu,<- he]
 ·injection he with he;have hx:=hx.1;have hy:=hy.1;subst hx;subst hy;rw[run_equalIn_string w dp t _ _ hu,<- he]
 ·cases he
theorem qkj{dp:Nat}{H:qbe}{M:Id->Option Nat}{F:Nat->Prop}{w:World}{len:Len}{xs ys:Array Value}:∀(fs:List Field) (q:List TypeDesc) (l m:List EV) (k:Nat) (r:Bool),zdo P fs q k=true->eqV q l m=some r ->
  (∀j,j<l.length->∃c,xs[k+j]?=some c/\qay H M F w (qa3 len l j) c)->(∀j,j<m.length->∃c,ys[k+j]?=some c/\qay H M F w (qa3 len m j) c) ->
  (Op.eqFields (dp+1) xs ys fs).run P w=.ok r w
 |[],[],l,m,k,r,h,he,hx,hy=>by
  cases l<;>cases m<;>simp only[eqV]at he<;>first|(cases he;done)|(injection he with he;subst he;simp[Op.eqFields])
 |[],_::_,l,m,k,r,h,he,hx,hy=>by cases h
 |_::_,[],l,m,k,r,h,he,hx,hy=>by cases h
 |f::fs,x::q,l,m,k,r,h,he,hx,hy=>by
  cases l with
  |nil=>cases m<;>cases he
  |cons a l=>
   cases m with
   |nil=>cases he
   |cons b m=>
    simp only[zdo,zgz,zhn]at h;obtain⟨h1,h2,h3,h4⟩:=h;have h2:=zg2 h2;simp only[eqV]at he;cases e1:eqE x a b with
    |none=>rw[e1]at he;cases he
    |some r1=>
     cases e2:eqV q l m with
     |none=>rw[e1,e2]at he;cases he
     |some r2=>
      rw[e1,e2]at he;injection he with he;obtain⟨c,c1,c2⟩:=hx 0 (by simp);obtain⟨c',c1',c2'⟩:=hy 0 (by simp);have ih:=qkj fs q l m (k+1) r2 h4 e2 (fun j hj=>by
        obtain⟨c,a1,a2⟩:=hx (j+1) (by simpa using hj);exact⟨c,by rw[show k+1+j=k+(j+1)by omega];exact a1,by simpa only[qa3]using a2⟩) (fun j hj=>by
        obtain⟨c,a1,a2⟩:=hy (j+1) (by simpa using hj);exact⟨c,by rw[show k+1+j=k+(j+1)by omega];exact a1,by simpa only[qa3]using a2⟩) (dp:=dp)
      have hn : f.name ≠ "_" := by simpa using h1
      have p1:=qk3 (P:=P) h3 (cs:=xs) (k:=f.offset) (c:=c) (by rw[h2];exact c1) w
      have p2:=qk3 (P:=P) h3 (cs:=ys) (k:=f.offset) (c:=c') (by rw[h2];exact c1') w
      have p3:=qox (P:=P) h3 (dp:=dp) e1 (by simpa only[qa3]using c2) (by simpa only[qa3]using c2');simp only[Op.eqFields,if_pos hn,Sem.run_bind,p1,p2,p3,Result.andThen_ok];subst he;cases r1
      ·simp
      ·simpa using ih
theorem qm7{dp:Nat}{H:qbe}{M:Id->Option Nat}{F:Nat->Prop}{w:World}{len:Len}{xs ys:Array Value}{e:TypeId}{q:TypeDesc}(hq:qrf (P.underlying e) q=true):∀(n:Nat) (l m:List EV) (k:Nat) (r:Bool),eqV (List.replicate n q) l m=some r ->
  (∀j,j<l.length->∃c,xs[k+j]?=some c/\qay H M F w (qa3 len l j) c)->(∀j,j<m.length->∃c,ys[k+j]?=some c/\qay H M F w (qa3 len m j) c) ->
  (Op.eqItems (dp+1) e 1 xs ys (List.range' k n)).run P w=.ok r w
 |0,l,m,k,r,he,hx,hy=>by
  simp only[List.replicate]at he
  cases l<;>cases m<;>simp only[eqV]at he<;>first|(cases he;done)|(injection he with he;subst he;simp[Op.eqItems])
 |n+1,l,m,k,r,he,hx,hy=>by
  simp only[List.replicate_succ]at he;cases l with
  |nil=>cases m<;>cases he
  |cons a l=>
   cases m with
   |nil=>cases he
   |cons b m=>
    simp only[eqV]at he;cases e1:eqE q a b with
    |none=>rw[e1]at he;cases he
    |some r1=>
     cases e2:eqV (List.replicate n q) l m with
     |none=>rw[e1,e2]at he;cases he
     |some r2=>
      rw[e1,e2]at he;injection he with he;obtain⟨c,c1,c2⟩:=hx 0 (by simp);obtain⟨c',c1',c2'⟩:=hy 0 (by simp);have ih:=qm7 hq n l m (k+1) r2 e2 (fun j hj=>by
        obtain⟨c,a1,a2⟩:=hx (j+1) (by simpa using hj);exact⟨c,by rw[show k+1+j=k+(j+1)by omega];exact a1,by simpa only[qa3]using a2⟩) (fun j hj=>by
        obtain⟨c,a1,a2⟩:=hy (j+1) (by simpa using hj);exact⟨c,by rw[show k+1+j=k+(j+1)by omega];exact a1,by simpa only[qa3]using a2⟩) (dp:=dp)
      have p1:=qk3 (P:=P) hq (cs:=xs) (k:=k*1) (c:=c) (by rw[Nat.mul_one];exact c1) w
      have p2:=qk3 (P:=P) hq (cs:=ys) (k:=k*1) (c:=c') (by rw[Nat.mul_one];exact c1') w
      have p3:=qox (P:=P) hq (dp:=dp) e1 (by simpa only[qa3]using c2) (by simpa only[qa3]using c2');simp only[List.range'_succ,Op.eqItems,Sem.run_bind,p1,p2,p3,Result.andThen_ok];subst he;cases r1
      ·simp
      ·simpa using ih
theorem qv5[T:Tys P][X:TyX P]{s:ESt}{neg:Bool}{o:BinOp}(ho:o=if neg=true then .neq else .eql){t tY:TypeId}{x y:Operand}{K:EV->Option ρ}{res:ρ}(hx:(s.eval x).isStr=true)(hy:(s.eval y).isStr=true)(h:q47 P neg t (s.eval x) (s.eval y) K=some res) :
  ∃u,(∀d ty,QV P ⟨d,.binOp o t x y tY,ty,none⟩ (toV s.heap.len u) (qbc s))/\K u=some res:=by
 unfold q47 at h;split at h
 ·rename_i q hq;have hk:=(X.ok t).eq q hq;obtain⟨l,h,hl⟩:=qiv h;obtain⟨m,h,hm⟩:=qiv h;obtain⟨r,hr,h⟩:=q1m _ _ _ _ _ h;refine⟨_,fun d ty E M F a w rr=>?_,h⟩;have hvx:qay (toH s.heap) M F w (toV s.heap.len (s.eval x)) (a.eval x):=s.qdj x _ _ _ _ _ (rr.eval x);have hvy:qay (toH s.heap) M F w (toV s.heap.len (s.eval y)) (a.eval y):=s.qdj y _ _ _ _ _ (rr.eval y);have cx:=hl _ _ _ _ _ _ hvx;have cy:=hm _ _ _ _ _ _ hvy;have agg:∀(u:EV) (v:Value),u.isStr=true->qay (toH s.heap) M F w (toV s.heap.len u) v->∃cs,v=.agg cs:=fun u v hu hv=>by
   cases u<;>first|(cases hu;done)|(obtain⟨cs,e,_⟩:=hv;exact⟨cs,e⟩)
  obtain⟨xs,ex⟩:=agg _ _ hx hvx;obtain⟨ys,ey⟩:=agg _ _ hy hvy;rw[ex]at cx;rw[ey]at cy;unfold eqTy at hk;split at hk
  ·rename_i fs hu;simp only[zgz,zhn]at hk;obtain⟨k1,k2,k3⟩:=hk;have hf:P.fieldsOf t=fs:=by simp[Program.fieldsOf,hu]
   have he:(Op.equalIn 10000 t (.agg xs) (.agg ys)).run P w=.ok r w:=by
    rw[run_equalIn_struct (P:=P) w 9999 t xs ys (by rw[hf];exact hu) k1,hf]
    exact qkj (dp:=9998) fs.toList q l m 0 r k3 hr (fun j hj=>by obtain⟨c,a1,a2,a3⟩:=cx.get j hj;exact⟨c,by rw[zg9];exact a1,a3⟩) (fun j hj=>by obtain⟨c,a1,a2,a3⟩:=cy.get j hj;exact⟨c,by rw[zg9];exact a1,a3⟩)
   have hg:=fun o=>run_eqGuard_agg (P:=P) w o t x y xs ys k2;cases neg with
   |false=>
    subst ho;refine⟨.bool r,?_,rfl⟩;simp only[execOp,GOp.oper,ex,ey,Sem.run_bind,hg,Result.andThen_ok,zhs,if_false,run_eql_struct,he,Sem.run_pure]
   |true=>
    subst ho;refine⟨.bool (!r),?_,rfl⟩;simp only[execOp,GOp.oper,ex,ey,Sem.run_bind,hg,Result.andThen_ok,if_true,run_neq_struct,he,Sem.run_pure]
  ·cases hk
 ·split at h
  ·rename_i n q hb;obtain⟨e,i,hu,hq,hc1,hi,h1,k2⟩:=qwi ((X.ok t).ba n q hb);obtain⟨l,h,hl⟩:=qiv h;obtain⟨m,h,hm⟩:=qiv h;obtain⟨r,hr,h⟩:=q1m _ _ _ _ _ h;refine⟨_,fun d ty E M F a w rr=>?_,h⟩;have hvx:qay (toH s.heap) M F w (toV s.heap.len (s.eval x)) (a.eval x):=s.qdj x _ _ _ _ _ (rr.eval x);have hvy:qay (toH s.heap) M F w (toV s.heap.len (s.eval y)) (a.eval y):=s.qdj y _ _ _ _ _ (rr.eval y);have cx:=hl _ _ _ _ _ _ hvx;have cy:=hm _ _ _ _ _ _ hvy;have agg:∀(u:EV) (v:Value),u.isStr=true->qay (toH s.heap) M F w (toV s.heap.len u) v->∃cs,v=.agg cs:=fun u v hu hv=>by
    cases u<;>first|(cases hu;done)|(obtain⟨cs,e,_⟩:=hv;exact⟨cs,e⟩)
   obtain⟨xs,ex⟩:=agg _ _ hx hvx;obtain⟨ys,ey⟩:=agg _ _ hy hvy;rw[ex]at cx;rw[ey]at cy;have he:(Op.equalIn 10000 t (.agg xs) (.agg ys)).run P w=.ok r w:=by
    rw[run_equalIn_array (P:=P) w 9999 xs ys hu hi,hc1,List.range_eq_range'];exact qm7 (dp:=9998) hq n l m 0 r hr (fun j hj=>by obtain⟨c,a1,a2,a3⟩:=cx.get j hj;exact⟨c,by rw[zg9];exact a1,a3⟩) (fun j hj=>by obtain⟨c,a1,a2,a3⟩:=cy.get j hj;exact⟨c,by rw[zg9];exact a1,a3⟩)
   have hg:=fun o=>run_eqGuard_agg (P:=P) w o t x y xs ys k2;cases neg with
   |false=>
    subst ho;refine⟨.bool r,?_,rfl⟩;simp only[execOp,GOp.oper,ex,ey,Sem.run_bind,hg,Result.andThen_ok,zhs,if_false,run_eql_struct,he,Sem.run_pure]
   |true=>
    subst ho;refine⟨.bool (!r),?_,rfl⟩;simp only[execOp,GOp.oper,ex,ey,Sem.run_bind,hg,Result.andThen_ok,if_true,run_neq_struct,he,Sem.run_pure]
  ·cases h
def qy7(P:Program)[Tys P](ev:Operand->EV)(H:qad)(t:TypeId)(x:Operand)(lo hi mx:Option Operand)(K:EV->Option ρ):Option ρ:=none
theorem qy6[T:Tys P]{s:ESt}{t:TypeId}{x:Operand}{lo hi mx:Option Operand}{K:EV->Option ρ}{res:ρ}(h:qy7 P s.eval s.heap t x lo hi mx K=some res) :
  ∃u,(∀d ty,QV P ⟨d,.slice t x lo hi mx,ty,none⟩ (toV s.heap.len u) (qbc s))/\K u=some res:=by unfold qy7 at h;cases h
end
end
end Go.Abs
namespace Go.Abs
open Go
noncomputable section
variable {P:Program} {d:Option Tmp} {ty:TypeId} {L:List GOp} {ρ:Type}
section
variable [SU] [qa2] {Q:Exit->ESt->Prop}
def qnn{α:Type}(g:qce->Option α)(k:qce)(y:α):qce->Option α:=fun q=>if q=k then some y else g q
def q9z:(N:Ty)->N.D->EV
 |.bool,x=>.b x
 |.int k,x=>.i k x
 |.str,x=>.s x
 |.sl e,x=>.fz e x
 |_,_=>.un
def zOk:Ty->Value->Bool
 |.bool,.bool false=>true
 |.int k,.int k' 0=>qdo k k'
 |.str,.string s=>Nat.beq s.size 0
 |.sl _,.slice none 0 0=>true
 |_,_=>false
theorem q99{N:Ty}{z:Value}(h:zOk N z=true)(len:Len):Wk (V.ofValue z) (toV len (q9z N N.z)):=by
 unfold zOk at h;split at h
 ·exact Wk.refl _
 ·have:=qcx h;subst this;exact Wk.refl _
 ·rename_i s;have h0:=zg2 h;have:s=ByteArray.empty:=by
   cases s with
   |mk a=>
    have:a.size=0:=h0;have:a=#[]:=Array.eq_empty_of_size_eq_zero this;rw[this];rfl
  subst this;exact Wk.refl _
 ·exact Wk.qby _ _
 ·cases h
theorem q34{N:Ty}{z:Value}(h:zOk N z=true)(len:Len)(y:N.D):toV len (q9z N y)=.t (qj6 N y 0):=by
 cases N<;>simp[zOk]at h<;>simp only[q9z,toV,qj6]<;>rfl
def zdl(s:Bool):EV->Option qce
 |.i k n=>match s,k with
  |false,.i64=>some (.i n)
  |_,_=>none
 |.s b=>match s with
  |true=>some (.s b)
  |false=>none
 |_=>none
theorem q0u{s:ESt}{x:Operand}{sk:Bool}{k:qce}(h:zdl sk (s.eval x)=some k):k.isS=sk/\∀E M F a w,Rel E M F (qbc s) a w->a.eval x=k.val:=by
 unfold zdl at h;split at h
 ·rename_i kk n hx;have hx:=eval_eq hx rfl;split at h
  ·injection h with h;subst h;exact⟨rfl,fun E M F a w r=>qb5 r hx⟩
  ·cases h
 ·rename_i b hx;have hx:=eval_eq hx rfl;split at h
  ·injection h with h;subst h;refine⟨rfl,fun E M F a w r=>?_⟩;have:=r.eval x;rw[hx]at this;exact this.1
  ·cases h
 ·cases h
def q8q(P:Program)[Tys P][TyX P](ev:Operand->EV)(H:qad)(t:TypeId)(x y:Operand)(ok:Bool)(K:EV->Option ρ):Option ρ:=match(TyX.x P t).mp with
 |some (sk,e,_)=>match(Tys.c P e).zero with
  |some z=>match ev x with
   |.qcd id=>match H.obj id with
    | .mp sm N g=>bif zOk N z then(match zdl sm (ev y)with
     |some k=>bif(sm==sk)then(bif ok then K (.tup [q9z N ((g k).getD N.z),.b (g k).isSome])else K (q9z N ((g k).getD N.z)))else none
     | none=>none)else none
    |_=>none
   |_=>none
  |none=>none
 |none=>none
theorem qus{H:qad}{id:Nat}{s:Bool}{N:Ty}{g:qce->Option N.D}(h:H.obj id=.mp s N g):(toH H).slot ⟨id,[]⟩=.mp s (fun x=>match g x with
  |some y=>some (.t (qj6 N y 0))
  | none=>none):=by
 show(H.obj id).slot _ _ _=_;rw[h];rfl
theorem q4r[T:Tys P][X:TyX P]{s:ESt}{t:TypeId}{x y:Operand}{ok:Bool}{K:EV->Option ρ}{res:ρ}(h:q8q P s.eval s.heap t x y ok K=some res) :
  ∃u,(∀d ty,QV P ⟨d,.lookup t x y ok,ty,none⟩ (toV s.heap.len u) (qbc s))/\K u=some res:=by
 unfold q8q at h;split at h
 ·rename_i sk e τ0 hm;have ht:=(X.ok t).mp _ _ _ hm;split at h
  ·rename_i z hz;have hzz:=(T.ok e).zero _ hz;split at h
   ·rename_i id hx;have hx:=eval_eq hx rfl;split at h
    ·rename_i sm N g ho;have hh:=qaf h;clear h;obtain⟨hzo,h⟩:=hh;split at h
     ·rename_i k hk;have hh:=qaf h;clear h;obtain⟨hs,h⟩:=hh;have hs:sm=sk:=by simpa using hs
      subst hs;obtain⟨k1,k2⟩:=q0u hk;have hsl:=qus ho;have hsl':(qbc s).heap.slot ⟨id,[]⟩=_:=hsl;have hl:∀d ty,_:=fun d ty=>O.lookup (d:=d) (ty:=ty) ht (zv:=z) hx hsl' k1 k2;have hw:Wk ((match g k with
        |some y=>some (V.t (qj6 N y 0))
        | none=>none).getD (V.ofValue z)) (toV s.heap.len (q9z N ((g k).getD N.z))):=by
       cases hg:g k with
       |none=>exact q99 hzo _
       |some y=>simp only[zhi];rw[q34 hzo];exact Wk.refl _
      cases ok with
      |false=>
       exact⟨_,fun d ty=>(hl d ty).1.wk hw,h⟩
      |true=>
       refine⟨_,fun d ty=>(hl d ty).2.wk ?_,h⟩;simp only[toV,zg1,zg7];intro H M F w c ⟨cs,q1,q2,q3⟩;refine⟨cs,q1,q2,fun j hj=>?_⟩;obtain⟨c,w1,w2⟩:=q3 j hj
       match j,hj with
       |0,_=>exact⟨c,w1,by simp only[qa3];exact hw _ _ _ _ _ w2⟩
       |1,_=>
        refine⟨c,w1,?_⟩;simp only[qa3,toV];have w2:c=.bool _:=w2;show c=.bool _;rw[w2];cases g k<;>rfl
     ·cases h
    ·cases h
   ·cases h
  ·cases h
 ·cases h
theorem qxb{t n e s:Nat}[h:qug P t n e s]{w:World}{b o:Nat}{k:IntKind}{i:Nat}(h1:i<n) :
  (Instr.indexAt t (.pointer (some ⟨b,o,none⟩)) (.int k (Int.ofNat i))).run P w=.ok (.pointer (some ⟨b,o+i*s,none⟩)) w:=by
 have hs:=h.s;have hsz:(sizeOf e).run P w=.ok s w:=by
  cases hq:P.info? e with
  |none=>simp[hq]at hs
  |some i=>simp[hq]at hs;simp[sizeOf,typeInfo,hq,hs]
 simp[Instr.indexAt,asIntOf,qai h.d,Instr.sureAddr,h1,hsz,qgm]
theorem O.zcd{st:St}{t n e s:Nat}[qug P t n e s]{x y:Operand}{id:Id}{ver rr c:Nat}{o:qcu}{k:IntKind}{i:Nat}(hx:st.eval x=.ptr id ver rr c)(ho:st.heap.slot id=.live o)(hv:ver=o.ver)(hy:st.eval y=.t (.int k (Int.ofNat i)))(hi:i<n) :
  QV P ⟨d,.indexAddr t x y,ty,none⟩ (.ptr id ver rr (c+i*s)) st:=
 fun E M F a w r=>by
  obtain⟨b,hb,he⟩:=qgg r hx ho hv;refine⟨_,by simp only[execOp,GOp.oper,he,qb5 r hy,Sem.run_bind,qxb (P:=P) (t:=t) hi,Result.andThen_ok];rfl,rfl,?_⟩
  rw[ho];exact⟨by omega,fun _=>⟨b,hb,by rw[Nat.add_assoc]⟩⟩
def zds(K:Nat->Option ρ)(m:Int):Nat->Nat->Option ρ
 |0,_=>none
 |n+1,k=>bif decide (m=Int.ofNat k)then K k else zds K m n (k+1)
theorem qwk{K:Nat->Option ρ}{m:Int}{res:ρ}:∀ {n k:Nat},zds K m n k=some res->∃i,m=Int.ofNat i/\i<k+n/\K i=some res
 |0,_,h=>by cases h
 |n+1,k,h=>by
  unfold zds at h;cases hb:decide (m=Int.ofNat k)with
  |true=>rw[hb]at h;exact⟨k,of_decide_eq_true hb,by omega,h⟩
  |false=>
   rw[hb]at h;obtain⟨i,h1,h2,h3⟩:=qwk (n:=n) h;exact⟨i,h1,by omega,h3⟩
def zfl(P:Program)[Tys P][TyX P](H:qad)(t:TypeId)(a i:EV)(K:EV->Option ρ):Option ρ:=match(TyX.x P t).ar with
 |some (n,sz)=>match i with
  |.i _ m=>match a with
   |.ptr id p r c=>bif H.is id p then zds (fun i=>qw6 (c+i*sz) fun c'=>K (.ptr id p r c')) m n 0 else none
   |_=>none
  |_=>none
 |none=>none
theorem q9s[T:Tys P][X:TyX P]{s:ESt}{t:TypeId}{x y:Operand}{K:EV->Option ρ}{res:ρ}(h:zfl P s.heap t (s.eval x) (s.eval y) K=some res):∃u,(∀d ty,QV P ⟨d,.indexAddr t x y,ty,none⟩ (toV s.heap.len u) (qbc s))/\K u=some res:=by
 unfold zfl at h;split at h
 ·rename_i n sz har;obtain⟨e,har⟩:=(X.ok t).ar n sz har;split at h
  ·rename_i k m hy;have hy:=eval_eq hy rfl;simp only[toV]at hy;split at h
   ·rename_i id p r c hx;have hx:=eval_eq hx rfl;simp only[toV]at hx;have hh:=qaf h;clear h;obtain⟨h2,h⟩:=hh;obtain⟨o,ho,hv⟩:=qad.qoq h2;obtain⟨i,rfl,h1,h⟩:=qwk h;rw[qfo]at h;exact⟨_,fun d ty=>(by simp only[toV];exact O.zcd (e:=e) hx ho hv.symm hy (by omega)),h⟩
   ·cases h
  ·cases h
 ·cases h
def q6e(P:Program)[Tys P][TyX P](ev:Operand->EV)(H:qad)(op:Op)(K:EV->Option ρ):Option ρ:=match op with
 |.makeFunc fn first caps=>match fn,first.toList with
  |.func f,[]=>fnE f ev caps.toList [] K
  |_,_=>none
 |.build t A=>qqn P ev t A.toList K
 |.lookup t x y ok=>q8q P ev H t x y ok K
 |.slice t x lo hi mx=>qy7 P ev H t x lo hi mx K
 |.indexAddr t x y=>bif(TyX.x P t).ar.isSome then zfl P H t (ev x) (ev y) K else zbs P ev H (.indexAddr t x y) K
 | .binOp o t x y tY=>bif(ev x).isStr&&(ev y).isStr then(match o with
  |.eql=>q47 P false t (ev x) (ev y) K
  |.neq=>q47 P true t (ev x) (ev y) K
  | _=>none)else zbs P ev H (.binOp o t x y tY) K
 |op=>zbs P ev H op K
where
 fnE (f:FuncId) (ev:Operand->EV):List Operand->List EV->(EV->Option ρ)->Option ρ
 |[],us,K=>K (.fn f us.reverse)
 |x::l,us,K=>fE (ev x) fun u=>fnE f ev l (u::us) K
theorem q6y(f:FuncId)(ev:Operand->EV)(K:EV->Option ρ):∀(l:List Operand) (us:List EV),q6e.fnE f ev l us K=K (.fn f (us.reverse++l.map ev))
 |[],us=>by simp[q6e.fnE]
 |x::l,us=>by simp only[q6e.fnE];rw[qj4,q6y f ev K l];simp
theorem qs7[T:Tys P][X:TyX P]{s:ESt}{op:Op}{K:EV->Option ρ}{res:ρ}(h:q6e P s.eval s.heap op K=some res):∃u,(∀d ty,QV P ⟨d,op,ty,none⟩ (toV s.heap.len u) (qbc s))/\K u=some res:=by
 unfold q6e at h;split at h
 ·rename_i fn first caps
  split at h
  ·rename_i f hf;rw[q6y]at h;refine⟨_,fun d ty=>?_,h⟩
   have:first=#[]:=by cases first;simp_all
   subst this;refine(O.makeFunc (f:=f) (caps:=caps) (st:=qbc s)).wk ?_;simp only[toV,List.reverse_nil,zhv,zha,zit];intro H M F w c ⟨cs,q1,q2,q3⟩;refine⟨cs,q1,q2,fun j hj=>?_⟩;obtain⟨c,w1,w2⟩:=q3 j hj;refine⟨c,w1,?_⟩;rw[qde];have e:(List.map s.eval caps.toList).getD j .un=s.eval (caps.getD j (.func 0)):=by
    simp[zg0,hj,Array.getD]
   rw[e];exact s.qdj _ _ _ _ _ _ w2
  ·cases h
 ·exact qt6 h
 ·exact q4r h
 ·exact qy6 h
 ·rename_i t x y;rcases Bool.eq_false_or_eq_true (TyX.x P t).ar.isSome with hb|hb
  ·rw[hb]at h;exact q9s h
  ·rw[hb]at h;exact qta h
 ·rename_i o t x y tY;rcases Bool.eq_false_or_eq_true ((s.eval x).isStr&&(s.eval y).isStr)with hb|hb
  ·rw[hb]at h;simp only[zgz]at hb;simp only[cond_true]at h;split at h
   ·exact qv5 (neg:=false) rfl hb.1 hb.2 h
   ·exact qv5 (neg:=true) rfl hb.1 hb.2 h
   ·cases h
  ·rw[hb]at h;exact qta h
 ·exact qta h
def qp2(P:Program)[Tys P][TyX P](t:TypeId)(K:OD->Option ρ):Option ρ:=match(TyX.x P t).mp with
 |some (sk,_,N)=>K (.mp sk N (fun _=>none))
 |none=>none
theorem qx7{s:ESt}{sk:Bool}{N:Ty}(hf:Fair s)(d:Option Tmp) :
  qgs (((qbc s).on ((qbc s).heap.q9w sk (fun _=>none))).put d (.qcd ⟨s.heap.next,[]⟩)) (qbc ((s.on (s.heap.add s.heap.next (.mp sk N (fun _=>none)))).put d (.qcd s.heap.next))):=by
 have hsl:∀i:Id,((qbc s).heap.q9w sk (fun _=>none)).slot i=if i=⟨s.heap.next,[]⟩then .mp sk (fun _=>none)else(toH s.heap).slot i:=fun i=>by
  show(bif Id.beq i ⟨s.heap.next,[]⟩then _ else _)=_;exact qef _ _ _ _
 have hnew:∀p,(toH (s.heap.add s.heap.next (.mp sk N (fun _=>none)))).slot ⟨s.heap.next,p⟩=(OD.mp sk N (fun _=>none)).slot (s.heap.add s.heap.next (.mp sk N (fun _=>none))).len s.heap.next p:=fun p=>by
  show((s.heap.add s.heap.next (.mp sk N (fun _=>none))).obj s.heap.next).slot _ _ _=_;simp only[qad.add,zhc,cond_true]
 refine qgv hf s.heap.next (fun k' hk=>by simp only[qad.add,qav hk,cond_false]) (fun id p hb=>?_) (fun i hi=>?_) rfl (fun hn i hi=>?_) (fun p hne=>?_) (fun p o' hl=>?_) (fun p sb g' hl=>?_) d (fun _=>by simp only[toV];exact Wk.refl _)
 ·have:id≠s.heap.next:=fun e=>hb (hf.next ⟨id,p⟩ (by rw[e];exact zg3 _))
  exact qad.qg7 (qad.qsw this) p
 ·rw[hsl,if_neg (fun e=>hi (by rw[e]))]
 ·have hi:s.heap.next+1<=i.k:=hi;have hne:i.k≠s.heap.next:=by omega
  have:=hf.next i (by omega);have h':(s.heap.obj i.k).slot s.heap.len i.k i.p=.qae:=this;show((s.heap.add s.heap.next (.mp sk N (fun _=>none))).obj i.k).slot _ _ _=.qae;simp only[qad.add,qav hne,cond_false];exact(qfs (len:=s.heap.len)).2.2 h'
 ·rw[hsl]at hne ⊢;by_cases hp:p=[]
  ·subst hp;rw[if_pos rfl,hnew];trivial
  ·rw[if_neg (fun e=>hp (by injection e))]at hne;exact absurd (hf.next ⟨s.heap.next,p⟩ (zg3 _)) hne
 ·rw[hnew]at hl;cases p<;>cases hl
 ·rw[hnew]at hl;rw[hsl];cases p with
  |nil=>rw[if_pos rfl];exact hl
  |cons x y=>cases hl
theorem qtq[T:Tys P][X:TyX P]{s:ESt}{t:TypeId}{K:ESt->Option ρ}{res:ρ}(hK:∀s',K s'=some res->SLT P L Q s')
  (h:qp2 P t (fun o=>qw6 s.heap.next fun id=>K ((s.on (s.heap.add id o)).put d (.qcd id)))=some res):SLT P (⟨d,.makeMap t none,ty,none⟩::L) Q s:=by
 refine⟨SL.fair fun hf=>?_⟩;unfold qp2 at h;split at h
 ·rename_i sk e N hm;simp only[qfo]at h;exact SL.makeMap (SL.weak (qx7 hf d) (hK _ h).out)
 ·cases h
def zdw(P:Program)[Tys P][TyX P](s:ESt)(d:Option Tmp)(t:TypeId)(x y z:Operand)(K:ESt->Option ρ):Option ρ:=match(TyX.x P t).mp with
 |some (sk,_,_)=>match s.eval x with
  |.qcd id=>match s.heap.obj id with
   | .mp sm N g=>bif qj2 N&&(Nat.beq N.sz 1&&(sm==sk))then(match zdl sm (s.eval y)with
    |some k=>match qww N N.z 0 (s.eval z)with
     |some v=>K ((s.on (s.heap.set id (.mp sm N (qnn g k v)))).put d .un)
     |none=>none
    | none=>none)else none
   |_=>none
  |_=>none
 |none=>none
theorem qx6{s:ESt}{sk:Bool}{N:Ty}{id:Nat}{g g':qce->Option N.D}{G:qce->Option V}(hf:Fair s)(ho:s.heap.obj id=.mp sk N g) (hG:G=fun x=>match g' x with
  |some y=>some (.t (qj6 N y 0))
  | none=>none) (d:Option Tmp) :
  qgs (((qbc s).on ((qbc s).heap.zbp ⟨id,[]⟩ sk G)).put d .un) (qbc ((s.on (s.heap.set id (.mp sk N g'))).put d .un)):=by
 subst hG;have hlen:∀j p,(s.heap.set id (.mp sk N g')).len j p=s.heap.len j p:=fun j p=>by
  by_cases hj:j=id
  ·subst hj;unfold qad.len;simp only[qad.set,zhc,cond_true];rw[ho];rfl
  ·exact qad.qg7 (qad.qip hj) p
 have hs1:∀i:Id,((qbc s).heap.zbp ⟨id,[]⟩ sk (fun x=>match g' x with
  |some y=>some (.t (qj6 N y 0))
  | none=>none)).slot i=if i=⟨id,[]⟩then .mp sk (fun x=>match g' x with
  |some y=>some (.t (qj6 N y 0))
  | none=>none)else(toH s.heap).slot i:=fun i=>by
  show(bif Id.beq i ⟨id,[]⟩then _ else _)=_;exact qef _ _ _ _
 have hsn:∀p,(toH (s.heap.set id (.mp sk N g'))).slot ⟨id,p⟩=(OD.mp sk N g').slot (s.heap.set id (.mp sk N g')).len id p:=fun p=>by
  show((s.heap.set id (.mp sk N g')).obj id).slot _ _ _=_;simp only[qad.set,zhc,cond_true]
 have hun:∀x y,(toH s.heap).slot ⟨id,x::y⟩=.qae:=fun x y=>by
  show(s.heap.obj id).slot _ _ _=_;rw[ho];rfl
 refine qgv hf id (fun k' hk=>qad.qip hk) (fun j q _=>hlen j q) (fun i hi=>by rw[hs1,if_neg (fun e=>hi (by rw[e]))]) rfl (fun hn i hi=>?_) (fun p hne=>?_) (fun p o' hl'=>?_) (fun p sb g' hl'=>?_) d (fun _=>by simp only[toV];exact Wk.refl _)
 ·by_cases hi2:i.k=id
  ·obtain⟨j,p⟩:=i;simp only at hi2;subst hi2;have:=hn ⟨j,p⟩ hi;rw[hs1]at this;rw[hsn];split at this
   ·cases this
   ·rename_i hne;cases p with
    |nil=>exact absurd rfl hne
    |cons x y=>rfl
  ·have:=hf.next i hi;have h':(s.heap.obj i.k).slot s.heap.len i.k i.p=.qae:=this;show((s.heap.set id (.mp sk N g')).obj i.k).slot _ _ _=.qae;rw[qad.qip hi2];exact(qfs (len:=s.heap.len)).2.2 h'
 ·rw[hs1]at hne ⊢;cases p with
  |nil=>rw[if_pos rfl,hsn];trivial
  |cons x y=>rw[if_neg (fun e=>by injection e with _ e;cases e)]at hne;exact absurd (hun x y) hne
 ·rw[hsn]at hl';cases p<;>cases hl'
 ·rw[hsn]at hl';rw[hs1];cases p with
  |nil=>rw[if_pos rfl];exact hl'
  |cons x y=>cases hl'
theorem q7e[T:Tys P][X:TyX P]{s:ESt}{t:TypeId}{x y z:Operand}{K:ESt->Option ρ}{res:ρ}(hK:∀s',K s'=some res->SLT P L Q s')
  (h:zdw P s d t x y z K=some res):SLT P (⟨d,.mapUpdate t x y z,ty,none⟩::L) Q s:=by
 refine⟨SL.fair fun hf=>?_⟩;unfold zdw at h;split at h
 ·rename_i sk e τ0 hm;have ht:=(X.ok t).mp _ _ _ hm;split at h
  ·rename_i id hx;have hx:=eval_eq hx rfl;split at h
   ·rename_i sm N g ho;have hh:=qaf h;clear h;obtain⟨hb,h⟩:=hh;simp only[zgz]at hb;obtain⟨b1,b2,b3⟩:=hb;have b2:=zg2 b2;have b3:sm=sk:=by simpa using b3
    subst b3;split at h
    ·rename_i k hk;split at h
     ·rename_i v hv;obtain⟨k1,k2⟩:=q0u hk;obtain⟨_,⟨u,hu,hw⟩,_⟩:=qlw _ _ _ _ _ hv;obtain⟨u',hu',he⟩:=qdt N v 0 b1;rw[hu]at hu';injection hu' with hu';subst hu';have he:=he (by omega) s.heap.len;have hsl':(qbc s).heap.slot ⟨id,[]⟩=_:=qus ho;refine SL.mapUpdate (u:=.t (qj6 N v 0)) ht hx hsl' k1 k2 (fun E M F a w r=>?_) (SL.weak (qx6 (g:=g) (g':=qnn g k v) hf ho ?_ d) (hK _ h).out)
      ·have:=hw s.heap.len _ _ _ _ _ (s.qdj z _ _ _ _ _ (r.eval z));rw[he]at this;exact this
      ·funext q;unfold q75 qnn;by_cases hq:q=k
       ·rw[if_pos hq,if_pos hq]
       ·rw[if_neg hq,if_neg hq]
     ·cases h
    ·cases h
   ·cases h
  ·cases h
 ·cases h
end
end
end Go.Abs
namespace Go.Abs
open Go
noncomputable section
variable {P:Program} {d:Option Tmp} {ty:TypeId} {L:List GOp} {ρ:Type}
section
variable [SU] [qa2] {Q:Exit->St->Prop} {st:St}
theorem q1l{t e:TypeId}{sz by_:Nat}[ht:qb2 P t e sz by_](dp:Nat)(A:Option Addr)(n cap:Nat)(w:World):(Op.equalIn (dp+1) t (.slice A n cap) (.slice none 0 0)).run P w=.ok A.isNone w:=by
 simp only[Op.equalIn,Sem.run_bind,qai ht.d,Result.andThen_ok];cases A<;>rfl
theorem SL.zb2{t e:TypeId}{sz by_:Nat}[ht:qb2 P t e sz by_]{x:Operand}{o:BinOp}{tY:TypeId}{neg:Bool}(hop:o=if neg=true then .neq else .eql){emp:Prop}
  (hx:∀E M F a w,Rel E M F st a w->∃A n cap,a.eval x=.slice A n cap/\(A=none->emp))
  (hk0:SL P L Q (st.put d (.t (.bool neg)))) (hk1:emp->SL P L Q (st.put d (.t (.bool !neg)))) :
  SL P (⟨d,.binOp o t x (.const (.slice none 0 0)) tY,ty,none⟩::L) Q st:=
 SL.value rfl fun E M F a w r=>by
  obtain⟨A,n,cap,e1,e2⟩:=hx E M F a w r;have heq:(Op.equal t (.slice A n cap) (.slice none 0 0)).run P w=.ok A.isNone w:=q1l 9999 A n cap w;have ec:a.eval (.const (.slice none 0 0))=.slice none 0 0:=rfl;have hg:∀o',(eqGuard o' t x (.const (.slice none 0 0)) (.slice A n cap) (.slice none 0 0)).run P w=.ok () w:=fun o'=>by
   unfold eqGuard;cases o'<;>rfl
  have hex:(execOp a.eval (GOp.oper ⟨d,.binOp o t x (.const (.slice none 0 0)) tY,ty,none⟩)).run P w=.ok (.value (.bool (if neg=true then !A.isNone else A.isNone))) w:=by
   cases neg with
   |false=>
    subst hop;simp only[execOp,GOp.oper,e1,ec,zhs,if_false,Sem.run_bind,hg,Result.andThen_ok,binOp,heq,Sem.run_pure]
   |true=>
    subst hop;simp only[execOp,GOp.oper,e1,ec,if_true,Sem.run_bind,hg,Result.andThen_ok,binOp,heq,Sem.run_pure]
  cases A with
  |none=>
   refine⟨_,w,M,F,st.heap,.t (.bool !neg),hex,r.h,Ext.refl _ _ _ _,?_,hk1 (e2 rfl)⟩;cases neg<;>rfl
  |some ad=>
   refine⟨_,w,M,F,st.heap,.t (.bool neg),hex,r.h,Ext.refl _ _ _ _,?_,hk0⟩;cases neg<;>rfl
theorem SL.bytes{src dst e:TypeId}(hs:P.underlying src=some .string)(hd:P.underlying dst=some (.slice e))(he:P.underlying e=some (.int .u8)){x:Operand}{b:ByteArray}(hx:st.eval x=.t (.str b))(hb:b.size<=LEN)
  (hk:SL P L Q (st.put d (.t (.sl 1 b.size (fun i _=>.int .u8 ((b.data.getD i 0).toNat:Nat)))))) :
  SL P (⟨d,.convert src dst x,ty,none⟩::L) Q st:=
 SL.value rfl fun E M F a w r=>by
  have hr:=r.eval x;rw[hx]at hr;have hr:=hr.1;have key:∃cap cells m w',b.size<=cap/\(Conv.stringToBytes e b).run P w=.ok (.slice (some ⟨w.heap.size,0,none⟩) b.size cap) w'/\w'.os=w.os/\w'.tape=w.tape/\w'.output=w.output/\w'.heap.size=w.heap.size+1 /\
    (∀k,k<w.heap.size->w'.heap[k]?=w.heap[k]?)/\w'.heap[w.heap.size]?=some (.cells cells e m)/\∀i,i<b.size->cells[i]?=some (.int .u8 ((b.data.getD i 0).toNat:Nat)):=by
   have hforced:(Question.appendCap b.size 0 e).forced=false:=by rfl
   have hcap:b.size<=(Question.appendCap b.size 0 e).cut (w.tape w.drawn (.appendCap b.size 0 e)):=Nat.le_add_right _ _;generalize hq:(Question.appendCap b.size 0 e).cut (w.tape w.drawn (.appendCap b.size 0 e))=cap at hcap;generalize hc:(b.data.map fun x=>Value.int .u8 (x.toNat:Nat))++Array.replicate (cap-b.size) (.int .u8 0)=cells;have hsz:(w.drew.alloc (.cells cells e)).heap[w.heap.size]?=some (.cells cells e (0,0)):=(MapKept.heap_alloc w.drew _).1;have hlt:w.heap.size<(w.drew.alloc (.cells cells e)).heap.size:=(zic.1 hsz).1;refine⟨cap,cells,(cells.size,cells.size+1),(w.drew.alloc (.cells cells e)).freeze ⟨w.heap.size,cells.size,none⟩ 1,hcap,?_,rfl,rfl,rfl,?_,fun k hk=>?_,?_,fun i hi=>?_⟩
   ·simp only[Conv.stringToBytes,Sem.run_bind,run_choose_drew,hforced,zhs,if_false,Result.andThen_ok,newRow,run_newObj_alloc,Sem.run_pure,markStringish,run_shape,hq,hc];have:(w.drew.alloc (.cells cells e)).shape? w.drew.heap.size=some (e,cells.size):=by
     show(match(w.drew.alloc (.cells cells e)).heap[w.heap.size]? with
      |some (.cells c elem _)=>some (elem,c.size)
      | _=>none)=_
     rw[hsz]
    simp only[this,Sem.run_bind,run_freeze,Result.andThen_ok,Sem.run_pure];rfl
   ·show((w.heap.push _).modify _ _).size=_;simp
   ·show((w.heap.push _).modify _ _)[k]?=_;rw[Array.getElem?_modify,if_neg (by show ¬ w.heap.size=k;omega),Array.getElem?_push_lt hk]
    exact(zhp hk).symm
   ·show((w.heap.push _).modify _ _)[w.heap.size]?=_;rw[Array.getElem?_modify,if_pos rfl];have:(w.heap.push (Obj.cells cells e (0,0)))[w.heap.size]?=some (.cells cells e (0,0)):=by simp
    exact(congrArg (Option.map _) this).trans rfl
   ·subst hc;have hi':i<b.data.size:=hi;rw[zi5 (by simpa using hi')];rw[Array.getElem?_map,zhp hi',zii];rw[zhl,zhp hi',zhi]
  obtain⟨cap,cells,m,w',hcap,hrun,k1,k2,k3,k4,k5,k6,k7⟩:=key;obtain⟨g1,g2⟩:=r.h.grow (F':=fun k=>F k\/k=w.heap.size) k1 k2 k3 (by omega) k5 (fun k h=>.inl h) (fun k h=>by rcases h with h|h;exact .inl h;exact .inr (by omega)) (fun k h=>by rcases h with h|h;(have:=r.h.qno k h;omega);omega)
  refine⟨.slice (some ⟨w.heap.size,0,none⟩) b.size cap,w',M,_,st.heap,_,?_,g1,g2,?_,hk⟩
  ·simp only[execOp,GOp.oper,convert,hr,Sem.run_bind,qai hs,qai hd,qai he,Result.andThen_ok,hrun,Sem.run_pure]
  ·refine⟨_,cap,rfl,hcap,hb,fun hn=>⟨w.heap.size,0,rfl,.inr rfl,fun i hi j hj=>⟨_,?_,rfl⟩⟩⟩;have:j=0:=by omega
   subst this;simp only[World.cell?,k6];simpa using k7 i hi
end
section
variable [SU] [qa2] {Q:Exit->ESt->Prop}
def qkl(b:ByteArray):List Int:=b.data.toList.map fun x=>(x.toNat:Int)
theorem qxo(b:ByteArray):(qkl b).length=b.size:=by simp[qkl]
def q13(P:Program)[Tys P](s:ESt)(d:Option Tmp)(src dst:TypeId)(x:Operand)(K:ESt->Option ρ):Option ρ:=match(Tys.c P src).desc,(Tys.c P dst).sl,s.eval x with
 |some .string,some (e,_,_),.s b=>match(Tys.c P e).desc with
  |some (.int .u8)=>grd (okB (b.size<=281474976710656)) (K (s.put d (.fz (.int .u8) (qkl b))))
  |_=>none
 |_,_,_=>none
theorem q12[T:Tys P]{s:ESt}{src dst:TypeId}{x:Operand}{K:ESt->Option ρ}{res:ρ}(hK:∀s',K s'=some res->SLT P L Q s')(h:q13 P s d src dst x K=some res):SLT P (⟨d,.convert src dst x,ty,none⟩::L) Q s:=by
 refine⟨?_⟩;unfold q13 at h;split at h
 ·rename_i e sz by_ b h1 h2 hx;have t1:=(T.ok src).desc _ h1;have t2:=(T.ok dst).sl _ _ _ h2;split at h
  ·rename_i h3;have t3:=(T.ok e).desc _ h3;obtain⟨hp,h⟩:=qbs h;have hp:=qc5 hp;have hx:=eval_eq hx rfl;refine SL.bytes t1.d t2.d t3.d hx hp ?_;have:=(hK _ h).out;rw[qaw]at this;have e:toV s.heap.len (.fz (.int .u8) (qkl b))=.t (.sl 1 b.size (fun i _=>.int .u8 ((b.data.getD i 0).toNat:Nat))):=by
    simp only[toV,qx0];have e1:(qkl b).length=b.size:=qxo b;show V.t (.sl 1 (qkl b).length (fun r c=>.int .u8 ((qkl b).getD r 0)))=_;rw[e1];congr 2;funext i _;congr 1;simp only[qkl,zg0,zh5,zh6,zhl];cases b.data[i]?<;>rfl
   rw[e]at this;exact this
  ·cases h
 ·cases h
def zes(s:ESt)(o:BinOp)(x y:Operand):Option (Bool×Prop):=match y with
 |.const (.slice none 0 0)=>match(match o with | .eql=>some false | .neq=>some true|_=>none)with
  |some neg=>match s.eval x with
   |.fz _ l=>some (neg,l=[])
   |.qa5 id p=>match s.heap.at id p with
    |some v=>some (neg,v.l=[])
    |none=>none
   |_=>none
  |none=>none
 |_=>none
def zf2(s:ESt)(d:Option Tmp)(neg:Bool)(emp:Prop)(K:ESt->Option ρ):Option ρ:=
 grd (okB (emp->K (s.put d (.b (!neg)))=K (s.put d (.b neg)))) (K (s.put d (.b neg)))
def q0w(P:Program)[Tys P](t:TypeId):Bool:=match(Tys.c P t).sl with
 |some _=>true
 |none=>false
theorem q8d[T:Tys P]{s:ESt}{o:BinOp}{t tY:TypeId}{x y:Operand}{neg:Bool}{emp:Prop}{K:ESt->Option ρ}{res:ρ}(hK:∀s',K s'=some res->SLT P L Q s')(hq:zes s o x y=some (neg,emp))(ht:q0w P t=true)
  (h:zf2 s d neg emp K=some res):SLT P (⟨d,.binOp o t x y tY,ty,none⟩::L) Q s:=by
 refine⟨?_⟩;obtain⟨hp,h⟩:=qbs h;have hp:=qc5 hp;unfold q0w at ht;split at ht
 rotate_left
 ·cases ht
 rename_i q hsl;obtain⟨e,sz,by_⟩:=q;have t2:=(T.ok t).sl _ _ _ hsl;unfold zes at hq;split at hq
 ·split at hq
  ·rename_i neg' hneg;have hop:∀b,neg'=b->o=if b=true then .neq else .eql:=fun b hb=>by
    subst hb
    split at hneg<;>first|(injection hneg with hneg;subst hneg;rfl)|cases hneg
   have k0:K (s.put d (.b neg))=some res:=h;have done:(∀E M F a w,Rel E M F (qbc s) a w->∃A n cap,a.eval x=.slice A n cap/\(A=none->emp))->neg'=neg->SL P (⟨d,.binOp o t x (.const (.slice none 0 0)) tY,ty,none⟩::L) (qe9 Q) (qbc s):=fun hx hn=>by
    refine SL.zb2 (e:=e) (sz:=sz) (by_:=by_) (neg:=neg) (hop _ hn) hx ?_ (fun he=>?_)
    ·have:=(hK _ k0).out;rw[qaw]at this;exact this
    ·have:=(hK _ ((hp he).trans k0)).out;rw[qaw]at this;exact this
   split at hq
   ·rename_i N l hx;injection hq with hq;injection hq with q1 q2;have hx:=eval_eq hx rfl;refine done (fun E M F a w r=>?_) q1;have hr:=r.eval x;rw[hx]at hr;simp only[toV,qx0]at hr;obtain⟨A,cap,e1,e2,e3,e4⟩:=hr;refine⟨A,_,cap,e1,fun hA=>?_⟩;rw[<- q2];cases l with
    |nil=>rfl
    |cons a l=>
     obtain⟨b,o,q,_⟩:=e4 (by simp);rw[hA]at q;cases q
   ·rename_i id p hx;split at hq
    ·rename_i v hv;injection hq with hq;injection hq with q1 q2;have hx:=eval_eq hx rfl;refine done (fun E M F a w r=>?_) q1;have hr:=r.eval x;rw[hx]at hr;simp only[toV,qad.qf1 hv]at hr;obtain⟨_,hr⟩:=hr;have hs':(qbc s).heap.slot ⟨id,p⟩=.live (v.obj s.heap.len id p):=qb3 hv;rw[hs']at hr;obtain⟨_,hr⟩:=hr;obtain⟨hn,A,cap,e1,e2,e3⟩:=hr rfl;refine⟨A,_,cap,e1,fun hA=>?_⟩;rw[<- q2];cases hl:v.l with
     |nil=>rfl
     |cons a l=>
      obtain⟨b,cur,_,q,_⟩:=e3 (by rw[hl]at e2;simp at e2;omega)
      rw[hA]at q;cases q
    ·cases hq
   ·cases hq
  ·cases hq
 ·cases hq
def qyw(P:Program)[Tys P](s:ESt)(d:Option Tmp)(t:TypeId)(x y:Operand)(K:ESt->Option ρ):Option ρ:=none
theorem qyv[T:Tys P]{s:ESt}{t:TypeId}{x y:Operand}{K:ESt->Option ρ}{res:ρ}(hK:∀s',K s'=some res->SLT P L Q s')(h:qyw P s d t x y K=some res):SLT P (⟨d,.slice t x none (some y) none,ty,none⟩::L) Q s:=by unfold qyw at h;cases h
end
end
end Go.Abs
namespace Go.Abs
open Go
noncomputable section
variable {P:Program} {d:Option Tmp} {ty:TypeId} {L:List GOp} {ρ:Type}
section
variable [SU] [qa2] {Q:Exit->ESt->Prop}
def q6x:(N:Ty)->N.D->Nat->Option N.D
 |.st i,x,c=>qa2.q8y i x c
 |_,_,_=>none
theorem q02:∀(N:Ty) (x:N.D) (c:Nat) (y:N.D),q6x N x c=some y->qam N y c=.ev .un/\∀c',c'≠c->qam N y c'=qam N x c'
 |.st i,x,c,y,h=>qa2.qv0 i x c y h
 |.bool,_,_,_,h=>by cases h
 |.int _,_,_,_,h=>by cases h
 |.str,_,_,_,h=>by cases h
 |.sl _,_,_,_,h=>by cases h
 |.ol _ _,_,_,_,h=>by cases h
def tkM(id k:Nat)(P:List Nat):Id->Option Id:=fun i=>if i.k=k then some ⟨id,P++i.p⟩else if i.k=id/\P <+: i.p then none else some i
def zb4(P:Program)[Tys P][TyE P](s:ESt)(d:Option Tmp)(t:Nat)(x y:Operand)(K:ESt->Option ρ)(no:Option ρ):Option ρ:=no
theorem q4l[T:Tys P][TE:TyE P]{s:ESt}{t:Nat}{x y:Operand}{K:ESt->Option ρ}{no:Option ρ}{res:ρ}(hK:∀s',K s'=some res->SLT P L Q s')
  (hno:no=some res->SLT P (⟨d,.makeSlice t x y,ty,none⟩::L) Q s) (h:zb4 P s d t x y K no=some res):SLT P (⟨d,.makeSlice t x y,ty,none⟩::L) Q s:=hno h
def q4w:List Nat->Option (List Nat×Nat×Nat)
 |[c,r]=>some ([],c,r)
 |c::r::p=>match q4w p with
  |some (q,c',r')=>some (c::r::q,c',r')
  |none=>none
 |_=>none
theorem qvv:∀(l p:List Nat) (c r:Nat),q4w l=some (p,c,r)->l=p++[c,r]
 |[],_,_,_,h=>by cases h
 |[_],_,_,_,h=>by cases h
 |[c,r],p,c',r',h=>by injection h with h;injection h with h1 h2;injection h2 with h2 h3;subst h1;subst h2;subst h3;rfl
 |c::r::a::b,p,c',r',h=>by
  have h:(match q4w (a::b)with
   |some (q,c',r')=>some (c::r::q,c',r')
   | none=>none)=some (p,c',r'):=h
  split at h
  ·rename_i q c2 r2 hq;injection h with h;injection h with h1 h2;injection h2 with h2 h3;subst h1;subst h2;subst h3;have:=qvv (a::b) q c2 r2 hq;rw[this];rfl
  ·cases h
def zbj(s:ESt)(x:Operand)(K:ESt->Option ρ):Option ρ:=K s
theorem qyz{s:ESt}{x:Operand}{K:ESt->Option ρ}{res:ρ}(h:zbj s x K=some res):∃s',(Fair s->qb1 s s')/\K s'=some res:=⟨s,fun _=>qb1.refl s,h⟩
end
end
end Go.Abs
namespace Go.Abs
open Go
noncomputable section
variable {P:Program} {d:Option Tmp} {ty:TypeId} {L:List GOp} {ρ:Type}
variable {st:St} {Q:Exit->St->Prop}
section
variable [SU] [qa2] {Q:Exit->ESt->Prop}
def q1w(P:Program)[Tys P][TyE P](s:ESt)(d:Option Tmp)(t:Nat)(x:Operand)(K:ESt->Option ρ):Option ρ:=none
theorem q1v[T:Tys P][TE:TyE P]{s:ESt}{t:Nat}{x:Operand}{K:ESt->Option ρ}{res:ρ}(hK:∀s',K s'=some res->SLT P L Q s')(h:q1w P s d t x K=some res) :
  SLT P (⟨d,.call { callee:=.builtin .clear,args:=#[x],argTypes:=#[t] },ty,none⟩::L) Q s:=by unfold q1w at h;cases h
end
end
end Go.Abs
namespace Go.Abs
noncomputable section
variable {P:Program} {d:Option Tmp} {ty:TypeId} {L:List GOp} {ρ:Type}
section
variable [SU] [qa2] {Q:Exit->ESt->Prop}
def qx1(id k c:Nat):Nat->List Nat->Option EV:=fun j q=>bif Nat.beq j k then some .un else(bif Nat.beq j id then(match q with
 |[]=>none
 | c'::_=>bif Nat.beq c' c then some .un else none)else none)
theorem q1t{id k c j:Nat}{q:List Nat}{u:EV}(h:qx1 id k c j q=some u):u=.un:=by
 unfold qx1 at h;cases hb:Nat.beq j k with
 |true=>rw[hb]at h;injection h with h;exact h.symm
 |false=>
  rw[hb]at h;cases hc:Nat.beq j id with
  |false=>rw[hc]at h;cases h
  |true=>
   rw[hc]at h;cases q with
   |nil=>cases h
   |cons c' q=>
    simp only[cond_true,cond_false]at h;cases hd:Nat.beq c' c with
    |true=>rw[hd]at h;injection h with h;exact h.symm
    |false=>rw[hd]at h;cases h
theorem q1u{id k c j r:Nat}{q:List Nat}(h:qx1 id k c j q=none):j≠k/\¬ (j=id/\([]++[c,r]:List Nat) <+: q):=by
 unfold qx1 at h;cases hb:Nat.beq j k with
 |true=>rw[hb]at h;cases h
 |false=>
  have n1:j≠k:=fun e=>by subst e;simp at hb
  refine⟨n1,?_⟩
  rintro⟨e,z,rfl⟩
  subst e;rw[hb]at h;simp at h
theorem q86{id k c j:Nat}{q:List Nat}(h1:j≠id)(h2:j≠k):qx1 id k c j q=none:=by
 unfold qx1;rw[qav h2,qav h1];rfl
theorem q5b{id k c:Nat}(h:id≠k):qx1 id k c id []=none:=by
 unfold qx1;rw[qav h,zhc];rfl
def qad.qnp(H:qad)(id k c:Nat)(root' w:LV):qad:=
 { H with next:=k+1,obj:=fun j=>bif Nat.beq j id then .lst root' else bif Nat.beq j k then .lst w else qbw (qx1 id k c) (H.obj j) }
def ESt.qnp(s:ESt)(id k c:Nat)(root' w:LV)(tx:Tmp)(al:List EV)(ai:Nat):ESt:=
 { s with env:=fun t=>bif Nat.beq t tx then .agg (qsz (qbz (qx1 id k c) al) ai (.qa5 k []))else qa9 (qx1 id k c) (s.env t),heap:=s.heap.qnp id k c root' w }
theorem qb1.qnp{s:ESt}{id:Nat}{root root' w:LV}{r c:Nat}{y:root.N.D}{tx:Tmp}{al:List EV}{ai:Nat}(hik:id<s.heap.next)(ho:s.heap.obj id=.lst root)(hr:r<root.l.length)
  (hc:c<root.N.sz) (hw:qam root.N (root.row r) c=.own w.e w.N w.l) (hy1:qam root.N y c=.ev .un) (hy2:∀c',c'≠c->qam root.N y c'=qam root.N (root.row r) c') (hp:root'=root.setRow r y) (htx:s.env tx=.agg al) (hal:qdb al ai=.qa5 id [c,r]) (hlt:ai<al.length) :
  qb1 s (s.qnp id s.heap.next c root' w tx al ai):=qgs.fair fun hf=>by
 let k:=s.heap.next
 let p:List Nat:=[]
 let v:=root
 have hv:root.at p=some v:=LV.qa6 _;have hp:root.put p (v.setRow r y)=some root':=by rw[hp];exact rfl
 let PP:List Nat:=p++[c,r]
 let m:Id->Option Id:=tkM id k PP
 let f:=qx1 id k c
 let H':=s.heap.qnp id k c root' w
 have hne:id≠k:=Nat.ne_of_lt hik;obtain⟨a1,a2,a3,a4⟩:=LV.qu4 p root v root' r c y hv hr hy2 hp;have hpe:=LV.qgk p root v hv;have hPP:PP.length=p.length+2:=by simp[PP]
 have eV:root.at PP=some w:=by
  rw[LV.qbv _ _ _ _ hv,LV.at_one];exact LV.qd8 hw
 have atP:∀q,root.at (PP++q)=w.at q:=fun q=>by rw[LV.qbv _ _ _ _ eV]
 have atN:∀q,root'.at (PP++q)=none:=fun q=>by
  rw[show PP++q=p++([c,r]++q)by simp[PP],LV.qbv _ _ _ _ a1];show LV.at _ (c::r::q)=none;rw[LV.qbu];have:(v.setRow r y).kid c r=none:=by
   have e:(v.setRow r y).row r=y:=by rw[LV.qbx hr,if_pos rfl]
   unfold LV.kid;have e':(v.setRow r y).l.getD r (v.setRow r y).N.z=y:=e;rw[e'];show(match qam v.N y c with
    |.own t e l=>some (LV.mk t e l)
    | .ev _=>none)=none
   rw[hy1]
  rw[this]
 have hobj:∀j,j≠id->j≠k->H'.obj j=qbw f (s.heap.obj j):=fun j e1 e2=>by simp only[H',qad.qnp,qav e1,qav e2,cond_false];rfl
 have hobji:H'.obj id=.lst root':=by simp only[H',qad.qnp,zhc,cond_true]
 have hobjk:H'.obj k=.lst w:=by simp only[H',qad.qnp,qav (fun e=>hne e.symm),cond_false,zhc,cond_true]
 have hsl:∀q,(toH s.heap).slot ⟨id,q⟩=(OD.lst root).slot s.heap.len id q:=fun q=>by show(s.heap.obj id).slot _ _ _=_;rw[ho]
 have hslk:∀q,(toH s.heap).slot ⟨k,q⟩=.qae:=fun q=>hf.next ⟨k,q⟩ (zg3 _);have hsl':∀q,(toH H').slot ⟨id,q⟩=(OD.lst root').slot H'.len id q:=fun q=>by show(H'.obj id).slot _ _ _=_;rw[hobji]
 have hslk':∀q,(toH H').slot ⟨k,q⟩=(OD.lst w).slot H'.len k q:=fun q=>by show(H'.obj k).slot _ _ _=_;rw[hobjk]
 have fn:∀j q,f j q=none->j≠k/\¬ (j=id/\PP <+: q):=fun j q h=>by
  exact q1u h
 have mo:∀j q,j≠id->j≠k->m ⟨j,q⟩=some ⟨j,q⟩:=fun j q e1 e2=>by simp only[m,tkM,if_neg e2,e1,false_and,if_false]
 have mi:∀q,¬ PP <+: q->m ⟨id,q⟩=some ⟨id,q⟩:=fun q e=>by simp only[m,tkM,if_neg hne,e,and_false,if_false]
 have mk:∀q,m ⟨k,q⟩=some ⟨id,PP++q⟩:=fun q=>by simp only[m,tkM,if_true]
 have hkk:qbm f s.heap (toH s.heap) H' m (fun _=>False):=⟨fun j q u h=>by
   have:u=.un:=q1t h;rw[this];simp only[toV];exact KG.un,
  fun j q h hb=>by
   obtain⟨e1,e2⟩:=fn j q h;by_cases hj:j=id
   ·subst hj;have hq:¬ PP <+: q:=fun e=>e2 ⟨rfl,e⟩;refine .inr ⟨?_,mi q hq⟩;rw[hsl',hsl];rw[hsl]at hb;simp only[OD.slot]at hb ⊢;rcases a2 q hq with⟨x1,x2⟩|⟨x,x',x1,x2,x3⟩
    ·rw[x2]at hb;exact absurd rfl hb
    ·rw[x1,x2];exact⟨rfl,x3.e,by show x'.N.sz=x.N.sz;rw[x3.N],x3.n⟩
   ·refine .inr ⟨?_,mo j q hj e1⟩;show qaz _ ((H'.obj j).slot H'.len j q);rw[hobj j hj e1];exact qb7 hb,
  fun j q h hb=>by
   obtain⟨e1,e2⟩:=fn j q h;by_cases hj:j=id
   ·subst hj;have hq:¬ PP <+: q:=fun e=>e2 ⟨rfl,e⟩;unfold qad.len;rw[hobji,ho];simp only[OD.len];rcases a2 q hq with⟨x1,x2⟩|⟨x,x',x1,x2,x3⟩
    ·rw[x1,x2]
    ·rw[x1,x2];simp only[x3.n]
   ·exact qad.qdn (hobj j hj e1) q⟩
 have fo:∀j,j≠id->j≠k->∀q,f j q=none:=fun j e1 e2 q=>q86 e1 e2
 -- cells of the list that moves
 have cellM:∀(q:List Nat) (a:LV),w.at q=some a->∀r' c',r'<a.l.length->KG (toH s.heap) (toH H') m (fun _=>False) (qbd s.heap.len id (PP++q) r' c' (qam a.N (a.row r') c')) (qbd H'.len k q r' c' (qam a.N (a.row r') c')):=fun q a ha r' c' hr'=>by
  cases hx:qam a.N (a.row r') c' with
  |ev u=>exact KG.dat (qbf _ _ _ _ hx)
  |own t e l=>
   simp only[qbd];have e1:(toH s.heap).slot ⟨id,PP++q++[c',r']⟩=.live (LV.obj s.heap.len id (PP++q++[c',r']) ⟨t,e,l⟩):=by
    rw[hsl];exact qcs (by rw[atP];exact ha) hx
   have e2:(toH H').slot ⟨k,q++[c',r']⟩=.live (LV.obj H'.len k (q++[c',r']) ⟨t,e,l⟩):=by
    rw[hslk'];exact qcs ha hx
   refine KG.qbq (o:=LV.obj s.heap.len id (PP++q++[c',r']) ⟨t,e,l⟩) e1 e2 ?_ rfl rfl rfl rfl (by show 0+l.length<=l.length;omega)
   rw[mk];exact congrArg (fun z=>some (Id.mk id z)) (zib PP q [c',r']).symm
 have idlive:(toH s.heap).slot ⟨id,[]⟩≠.qae:=by rw[hsl];simp only[OD.slot,LV.qa6];intro e;cases e
 -- cells of the lists that stay
 have cellS:∀(q:List Nat) (a a':LV),root.at q=some a->root'.at q=some a'->q.length % 2=0->¬ PP <+: q->∀r' c' (x x':Cell),¬ (q=p/\r'=r/\c'=c)->x=qam a.N (a.row r') c'->x'=qam a'.N (a'.row r') c'->x.Sim x' ->
   KG (toH s.heap) (toH H') m (fun _=>False) (qbd s.heap.len id q r' c' x) (qbd H'.len id q r' c' x'):=fun q a a' ha ha' hqe hnq r' c' x x' hne hx hx' hsim=>by
  cases x with
  |ev u=>
   cases x' with
   |own t e l=>exact hsim.elim
   |ev u'=>
    have:u=u':=hsim;subst this;exact KG.dat (qbf _ _ _ _ hx.symm)
  |own t e l=>
   cases x' with
   |ev u=>exact hsim.elim
   |own t' e' l'=>
    obtain⟨rfl,rfl,hl⟩:=hsim;simp only[qbd];have np:¬ PP <+: q++[c',r']:=fun⟨z,hz⟩=>by
     have hlen:=congrArg List.length hz;simp only[zg6,zg1,zg7]at hlen;by_cases hz0:z=[]
     ·subst hz0;rw[zht]at hz;have h2:p=q/\[c,r]=[c',r']:=List.append_inj' hz rfl;have h3:=h2.2;simp only[List.cons.injEq,and_true]at h3;exact hne ⟨h2.1.symm,h3.2.symm,h3.1.symm⟩
     ·have hzl:z.length≠0:=fun e=>hz0 (zi4 e);refine hnq (List.prefix_of_prefix_length_le ⟨z,hz⟩ (List.prefix_append q [c',r']) ?_);omega
    rw[hl];have e1:(toH s.heap).slot ⟨id,q++[c',r']⟩=.live (LV.obj s.heap.len id (q++[c',r']) ⟨t,e,l⟩):=by rw[hsl];exact qcs ha hx.symm
    have e2:(toH H').slot ⟨id,q++[c',r']⟩=.live (LV.obj H'.len id (q++[c',r']) ⟨t,e,l'⟩):=by rw[hsl'];exact qcs ha' hx'.symm
    exact KG.qbq (o:=LV.obj s.heap.len id (q++[c',r']) ⟨t,e,l⟩) e1 e2 (mi _ np) rfl rfl rfl rfl (by show 0+l'.length<=l'.length;omega)
 have gen:Gen (toH s.heap) (toH H') m (fun _=>False):=by
  refine Gen.qa9 (fun j=>j=id\/j=k) hkk hf.obj (fun j hj=>?_) (fun i hi o' ho'=>?_) (fun i hi sb g' hm=>?_) (fun i j x hi h1' h2' e1 e2=>?_) rfl (fun i hi=>?_) (fun i hi hil hip=>?_)
  ·have e1:j≠id:=fun e=>hj (.inl e);have e2:j≠k:=fun e=>hj (.inr e);exact⟨fo j e1 e2,hobj j e1 e2,fun q=>mo j q e1 e2,fun q h=>h,fun q=>rfl⟩
  ·obtain⟨j,q⟩:=i;by_cases hj:j=id
   ·subst hj;rw[hsl']at ho';simp only[OD.slot]at ho';cases ha':root'.at q with
    |none=>rw[ha']at ho';cases ho'
    |some a'=>
     rw[ha']at ho';injection ho' with ho';subst ho';have hq:¬ PP <+: q:=fun⟨z,hz⟩=>by rw[<- hz,atN]at ha';cases ha'
     rcases a2 q hq with⟨x1,x2⟩|⟨x,x',x1,x2,x3⟩
     ·rw[x1]at ha';cases ha'
     ·have ha2:=ha';rw[x2]at ha';injection ha' with ha';subst ha';refine .inr ⟨⟨j,q⟩,LV.obj s.heap.len j q x,mi q hq,?_,fun h=>h,x3.e,?_,zij x3.n,fun r' hr' c' hc'=>?_⟩
      ·rw[hsl];simp only[OD.slot,x1]
      ·show x'.N.sz=x.N.sz;rw[x3.N]
      ·by_cases hx:q=p/\r'=r/\c'=c
       ·obtain⟨rfl,rfl,rfl⟩:=hx;rw[a1]at ha2;injection ha2 with ha2;subst ha2;have:qam (v.setRow r' y).N ((v.setRow r' y).row r') c'=.ev .un:=by
         rw[LV.qbx hr,if_pos rfl];exact hy1
        show KG _ _ _ _ _ (qbd H'.len j p r' c' (qam (v.setRow r' y).N ((v.setRow r' y).row r') c'));rw[this];simp only[qbd,toV];exact KG.un
       ·exact cellS q x x' x1 x2 (LV.qgk _ _ _ x1) hq r' c' _ _ hx rfl rfl (x3.c r' c' hx)
   ·have hj2:j=k:=hi.resolve_left hj;subst hj2;rw[hslk']at ho';simp only[OD.slot]at ho';cases ha':w.at q with
    |none=>rw[ha']at ho';cases ho'
    |some a'=>
     rw[ha']at ho';injection ho' with ho';subst ho';refine .inr ⟨⟨id,PP++q⟩,LV.obj s.heap.len id (PP++q) a',mk q,?_,fun h=>h,rfl,rfl,zg3 _,fun r' hr' c' _=>cellM q a' ha' r' c' hr'⟩;rw[hsl];simp only[OD.slot,atP,ha']
  ·obtain⟨j,q⟩:=i;by_cases hj:j=id
   ·subst hj;rw[hsl']at hm;simp only[OD.slot]at hm;cases ha':root'.at q<;>rw[ha']at hm<;>cases hm
   ·have hj2:j=k:=hi.resolve_left hj;subst hj2;rw[hslk']at hm;simp only[OD.slot]at hm;cases ha':w.at q<;>rw[ha']at hm<;>cases hm
  ·obtain⟨j1,q1⟩:=i;obtain⟨j2,q2⟩:=j;have key:∀q y,m ⟨id,q⟩=some y->¬ PP <+: q/\y=⟨id,q⟩:=fun q y e=>by
    by_cases hq:PP <+: q
    ·simp only[m,tkM,if_neg hne,hq,and_self,if_true]at e;cases e
    ·rw[mi q hq]at e;injection e with e;exact⟨hq,e.symm⟩
   by_cases n1:j1=id
   ·subst n1;obtain⟨p1,x1⟩:=key q1 x e1;by_cases n2:j2=j1
    ·subst n2;obtain⟨p2,x2⟩:=key q2 x e2;rw[<- x1,<- x2]
    ·by_cases n3:j2=k
     ·subst n3;rw[mk]at e2;injection e2 with e2;rw[x1]at e2;injection e2 with _ e2;exact absurd ⟨q2,e2⟩ p1
     ·rw[mo j2 q2 n2 n3]at e2;injection e2 with e2;rw[x1]at e2;injection e2 with e2 _;exact absurd e2 n2
   ·have hj:j1=k:=hi.resolve_left n1;subst hj;rw[mk]at e1;injection e1 with e1;by_cases n2:j2=id
    ·subst n2;obtain⟨p2,x2⟩:=key q2 x e2;rw[x2]at e1;injection e1 with _ e1;exact absurd ⟨q1,e1⟩ p2
    ·by_cases n3:j2=k
     ·subst n3;rw[mk]at e2;injection e2 with e2;rw[<- e1]at e2;injection e2 with _ e2;rw[List.append_cancel_left e2]
     ·rw[mo j2 q2 n2 n3]at e2;injection e2 with e2;rw[<- e1]at e2;injection e2 with e2 _;exact absurd e2 n2
  ·have hi:s.heap.next+1<=i.k:=hi;have e1:i.k≠id:=by omega
   have e2:i.k≠k:=by show i.k≠s.heap.next;omega
   show(H'.obj i.k).slot _ _ _=_;rw[hobj _ e1 e2];exact qcm.2 (hf.next i (by omega))
  ·obtain⟨j,q⟩:=i;simp only at hip hil;subst hip;by_cases hj:j=id
   ·subst hj;have fnone:f j []=none:=q5b hne;rcases hkk.slot j [] fnone idlive with h|⟨h,h'⟩
    ·exact .inr (.inl h)
    ·exact .inr (.inr ⟨h',h⟩)
   ·have hj2:j=k:=hi.resolve_left hj;subst hj2;exact .inl (hslk [])
 refine qgs.gen m (fun _=>False) rfl gen (fun t=>?_);show KG (toH s.heap) (toH H') m (fun _=>False) (toV s.heap.len (s.env t)) (toV H'.len (bif Nat.beq t tx then .agg (qsz (qbz f al) ai (.qa5 k []))else qa9 f (s.env t)));have hbt:=hf.env t;cases ht:Nat.beq t tx with
 |false=>exact qbm.keeps hkk _ hbt
 |true=>
  obtain rfl:=qbl ht;rw[htx]at hbt ⊢;have l1:s.heap.len id PP=some w.l.length:=by
   unfold qad.len;rw[ho];simp only[OD.len,eV]
  have l2:H'.len k []=some w.l.length:=by
   unfold qad.len;rw[hobjk];simp only[OD.len,LV.qa6]
  have e1:(toH s.heap).slot ⟨id,PP⟩=.live (LV.obj s.heap.len id PP w):=by rw[hsl];simp only[OD.slot,eV]
  have e2:(toH H').slot ⟨k,[]⟩=.live (LV.obj H'.len k [] w):=by rw[hslk'];simp only[OD.slot,LV.qa6]
  have em:m ⟨k,[]⟩=some ⟨id,PP⟩:=by rw[mk,zht]
  have link:KG (toH s.heap) (toH H') m (fun _=>False) (.qbq ⟨id,PP⟩ 0 0 w.l.length) (.qbq ⟨k,[]⟩ 0 0 w.l.length):=KG.qbq e1 e2 em rfl rfl rfl rfl (by show 0+w.l.length<=w.l.length;omega)
  simp only[cond_true,toV,qhi,qcf];refine KG.agg fun j hj=>?_;rw[qlv _ _ _ _ _ (by rw[qcf];exact hj)]
  by_cases hji:j=ai
  ·rw[if_pos hji,hji,<- qey,hal];simp only[toV];rw[show([c,r]:List Nat)=PP from rfl,l1,l2];exact link
  ·rw[if_neg hji];exact qbm.qop hkk al j (hbt j hj)
def q4i:List EV->Nat->Option (Nat×Nat×Nat×Nat)
 |[],_=>none
 |u::l,i=>match u with
  |.qa5 id [c,r]=>some (i,id,c,r)
  |_=>q4i l (i+1)
theorem qrv:∀ {l:List EV} {n i id c r:Nat},q4i l n=some (i,id,c,r)->n<=i/\i<n+l.length/\qdb l (i-n)=.qa5 id [c,r]
 |[],_,_,_,_,_,h=>by cases h
 |u::l,n,i,id,c,r,h=>by
  unfold q4i at h;split at h
  ·injection h with h;injection h with h1 h;injection h with h2 h;injection h with h3 h4;subst h1;subst h2;subst h3;subst h4;exact⟨zg3 _,by simp,by simp[qdb]⟩
  ·obtain⟨h1,h2,h3⟩:=qrv (n:=n+1) h;refine⟨by omega,by simp only[zg1];omega,?_⟩
   rw[show i-n=(i-(n+1))+1 by omega];exact h3
def quq(tx:Tmp):Nat->ESt->(ESt->Option ρ)->Option ρ
 |0,s,K=>K s
 |n+1,s,K=>match s.env tx with
  | .agg al=>(match q4i al 0 with
   | some (ai,id,c,r)=>(match s.heap.obj id with
    | .lst root=>grd (Nat.blt r root.l.length) (bif Nat.blt c root.N.sz then(match qrq root.N c with
     | some (t,e)=>qak (qrr root.N (root.l.getD r root.N.z) c e) fun l=>(match q6x root.N (root.l.getD r root.N.z) c with
      |some y=>qw6 s.heap.next fun k=>shO (root.l.set r y) fun l'=>quq tx n (s.qnp id k c ⟨root.e,root.N,l'⟩ ⟨t,e,l⟩ tx al ai) K
      | none=>none)
     | none=>none)else none)
    | _=>none)
   | none=>K s)
  |_=>K s
theorem qn6{tx:Tmp}{K:ESt->Option ρ}{res:ρ}:∀ {n:Nat} {s:ESt},quq tx n s K=some res->∃s',qb1 s s'/\K s'=some res
 |0,s,h=>⟨s,qb1.refl s,h⟩
 |n+1,s,h=>by
  unfold quq at h;split at h
  ·rename_i al hx;split at h
   ·rename_i ai id c r hn;obtain⟨_,n2,n3⟩:=qrv hn;split at h
    ·rename_i root ho;obtain⟨hr,h⟩:=qbs h;have hr:r<root.l.length:=zg4 hr;obtain⟨hc,h⟩:=qaf h;have hc:c<root.N.sz:=zg4 hc;split at h
     ·rename_i t e hte;have hh:=qb9 h;clear h;obtain⟨l,hl2,h⟩:=hh;split at h
      ·rename_i y hy;rw[qfo,qls]at h;obtain⟨y1,y2⟩:=q02 _ _ _ _ hy;obtain⟨s',w,hK⟩:=qn6 (n:=n) h;refine⟨s',?_,hK⟩;refine qb1.trans (qgs.fair fun hf=>?_) w;have hlive:id<s.heap.next:=Classical.byContradiction fun hn=>by
        have:=hf.next ⟨id,[]⟩ (zhz hn);have e:(toH s.heap).slot ⟨id,[]⟩=(OD.lst root).slot s.heap.len id []:=by show(s.heap.obj id).slot _ _ _=_;rw[ho]
        rw[e]at this;simp only[OD.slot,LV.qa6]at this;cases this
       exact qb1.qnp (w:=⟨t,e,l⟩) (y:=y) hlive ho hr hc (qk4 _ _ _ _ _ _ hte hl2) y1 y2 rfl hx n3 (by omega)
      ·cases h
     ·cases h
    ·cases h
   ·exact⟨s,qb1.refl s,h⟩
  ·exact⟨s,qb1.refl s,h⟩
end
end
end Go.Abs
namespace Go.Abs
noncomputable section
variable {P:Program} {d:Option Tmp} {ty:TypeId} {L:List GOp} {ρ:Type}
section
variable [SU] [qa2] {Q:Exit->ESt->Prop}
theorem qem{n:Nat}:∀ {l:List Nat},qnu n l=true↔n∈l
 |[]=>by simp[qnu]
 |a::l=>by
  simp only[qnu,zh0,zhr,qem (l:=l)]
  constructor
  ·rintro(h|h)
   ·exact .inl (zg2 h)
   ·exact .inr h
  ·rintro(rfl|h)
   ·exact .inl (zhc _)
   ·exact .inr h
def q7u(ks:List Nat):Nat->List Nat->Option EV:=fun j _=>bif qnu j ks then some .un else none
theorem qrd{ks:List Nat}{j:Nat}{q:List Nat}:q7u ks j q=none↔j∉ks:=by
 unfold q7u;cases h:qnu j ks with
 |true=>simp[qem.1 h]
 |false=>simp only[cond_false,true_iff];exact fun hm=>by rw[qem.2 hm]at h;cases h
theorem qza{ks:List Nat}{j:Nat}{q:List Nat}{u:EV}(h:q7u ks j q=some u):u=.un:=by
 unfold q7u at h;cases hb:qnu j ks<;>rw[hb]at h
 ·cases h
 ·injection h with h;exact h.symm
def qad.qxs(H:qad)(ks:List Nat)(k2 nx:Nat)(v:LV):qad:=
 { next:=nx,lo:=H.lo,md:=H.md,obj:=fun j=>bif Nat.beq j k2 then .lst v else bif qnu j ks then .dead else qbw (q7u ks) (H.obj j) }
def ESt.qxs(s:ESt)(ks:List Nat)(k2 nx:Nat)(v:LV):ESt:={ s with env:=fun t=>qa9 (q7u ks) (s.env t),heap:=s.heap.qxs ks k2 nx v }
structure q67(s:ESt)(N:Ty)(al:List EV)(y:N.D)(ks:List Nat):Prop where
 cell:∀c,(∃u,qam N y c=.ev u/\(c<N.sz->∀len,Wk (qa3 s.heap.len al c) (toV len u))) \/
  (∃kk w,qdb al c=.qa5 kk []/\kk∈ks/\s.heap.obj kk=.lst w/\qam N y c=.own w.e w.N w.l)\/(N.sz<=c/\∃t e,qam N y c=.own t e [])
 inj:∀c c' kk,qdb al c=.qa5 kk []->qdb al c'=.qa5 kk []->kk∈ks->c=c'
 live:∀kk∈ks,∃w,s.heap.obj kk=.lst w
theorem qix:∀ {l:List EV} {c:Nat},l.length<=c->qdb l c=.un
 |[],_,_=>rfl
 |_::_,0,h=>by simp at h
 |_::l,c+1,h=>qix (l:=l) (by simpa using h)
def zb3(N:Ty)(al:List EV)(y:N.D)(c:Nat):Option Nat:=match qdb al c,qam N y c with
 |.qa5 kk [],.own _ _ _=>some kk
 |_,_=>none
theorem qqx{s:ESt}{H1:qbe}{k k2 nx:Nat}{v1:LV}{y:v1.N.D}{al:List EV}{ks:List Nat}{a1:qcu}{u0:V}
  (hf:Fair s) (hy:q67 s v1.N al y ks) (hal:al.length=v1.N.sz)
  (h1:∀i,H1.slot i=if i=⟨k,[]⟩then .live a1 else(toH s.heap).slot i) (hlo:H1.lo=s.heap.lo)
  (ha1:v1.e=a1.elem) (ha2:v1.N.sz=a1.sz) (ha3:v1.l.length+1=a1.n)
  (hget1:∀r,r<v1.l.length->∀c,c<a1.sz->Wk (a1.get r c) (qbd s.heap.len k [] r c (qam v1.N (v1.row r) c)))
  (hget2:∀c,c<a1.sz->Wk (a1.get v1.l.length c) (qa3 s.heap.len al c))
  (hold:∀c r q,r<v1.l.length->(toH s.heap).slot ⟨k,c::r::q⟩=(OD.lst v1).slot s.heap.len k (c::r::q))
  (hk2:k2=k\/∀p,(toH s.heap).slot ⟨k2,p⟩=.qae) (hnx:s.heap.next<=nx) (hnk:k<nx) (hnk2:k2<nx) (hlk:s.heap.lo<=k2)
  (hkks:k∉ks) (hk2ks:k2∉ks) (d:Option Tmp) (hu:d≠none->Wk u0 (.qbq ⟨k,[]⟩ a1.ver 0 a1.n)) :
  qgs (((qbc s).on H1).put d u0) (qbc ((s.qxs (k::ks) k2 nx ⟨v1.e,v1.N,v1.l++[y]⟩).put d (.qa5 k2 []))):=by
 let n1:=v1.l.length
 let v:LV:=⟨v1.e,v1.N,v1.l++[y]⟩
 let f:=q7u (k::ks)
 let g:=zb3 v1.N al y
 let m:Id->Option Id:=fun i=>if i.k=k2 then(match i.p with
  |[]=>some ⟨k,[]⟩
  | c::r::q=>if r<n1 then some ⟨k,c::r::q⟩else if r=n1 then(match g c with
   |some kk=>some ⟨kk,q⟩
   | none=>none)else none
  | _=>none)else if i.k∈k::ks then none else some i
 let H':=s.heap.qxs (k::ks) k2 nx v
 have vn:v.l.length=n1+1:=by simp[v,n1]
 have rowL:∀r,r<n1->v.row r=v1.row r:=fun r hr=>by
  show(v1.l++[y]).getD r _=v1.l.getD r _;simp only[zg0,ziz hr];rfl
 have rowN:v.row n1=y:=by
  show(v1.l++[y]).getD n1 _=_;simp[zg0,n1]
 have rowO:∀r,n1<r->v.row r=v1.N.z:=fun r hr=>by
  show(v1.l++[y]).getD r _=_;rw[zg0,ziw (by simp;omega)];rfl
 have kidL:∀c r q,r<n1->v.at (c::r::q)=v1.at (c::r::q):=fun c r q hr=>by
  rw[LV.qbu,LV.qbu];have:v.kid c r=v1.kid c r:=LV.qmm (v:=v1) (v':=⟨v1.e,v1.N,v1.l++[y]⟩) (by
   show qam v1.N (v.row r) c=qam v1.N (v1.row r) c;rw[rowL r hr])
  rw[this]
 have hobj:∀j,j∉k::ks->j≠k2->H'.obj j=qbw f (s.heap.obj j):=fun j e1 e2=>by
  have:qnu j (k::ks)=false:=by
   cases h:qnu j (k::ks)with
   |false=>rfl
   |true=>exact absurd (qem.1 h) e1
  simp only[H',qad.qxs,qav e2,cond_false,this];rfl
 have hobj2:H'.obj k2=.lst v:=by simp only[H',qad.qxs,zhc,cond_true]
 have hdead:∀j,j∈k::ks->j≠k2->∀p,(toH H').slot ⟨j,p⟩=.dead:=fun j e1 e2 p=>by
  show(H'.obj j).slot _ _ _=_;have:qnu j (k::ks)=true:=qem.2 e1;simp only[H',qad.qxs,qav e2,cond_false,this,cond_true];rfl
 have kks2:∀kk,kk∈ks->kk≠k2:=fun kk h e=>hk2ks (e▸h);have kksk:∀kk,kk∈ks->kk≠k:=fun kk h e=>hkks (e▸h);have hsl2:∀p,(toH H').slot ⟨k2,p⟩=(OD.lst v).slot H'.len k2 p:=fun p=>by show(H'.obj k2).slot _ _ _=_;rw[hobj2]
 have hne:∀id p,f id p=none->(toH s.heap).slot ⟨id,p⟩≠.qae->id∉k::ks/\id≠k2:=fun id p h hb=>by
  have e1:=qrd.1 h;refine⟨e1,fun e=>?_⟩;rcases hk2 with e2|e2
  ·exact e1 (by rw[e,e2];exact zg5 ..)
  ·exact hb (by rw[e];exact e2 p)
 have mo:∀j q,j∉k::ks->j≠k2->m ⟨j,q⟩=some ⟨j,q⟩:=fun j q e1 e2=>by simp only[m,if_neg e2,if_neg e1]
 have m0:m ⟨k2,[]⟩=some ⟨k,[]⟩:=by simp only[m,if_true]
 have mL:∀c r q,r<n1->m ⟨k2,c::r::q⟩=some ⟨k,c::r::q⟩:=fun c r q hr=>by simp only[m,if_true,if_pos hr]
 have mN:∀c q kk,g c=some kk->m ⟨k2,c::n1::q⟩=some ⟨kk,q⟩:=fun c q kk hg=>by simp only[m,if_true,zio,if_false,hg]
 have hkk:qbm f s.heap H1 H' m (fun _=>False):=⟨fun id p u h=>by rw[qza h];simp only[toV];exact KG.un,
  fun id p h hb=>by
   obtain⟨e1,e2⟩:=hne id p h hb;refine .inr ⟨?_,mo id p e1 e2⟩;rw[h1,if_neg (fun e=>e1 (by injection e with e _;rw[e];exact zg5 ..))]
   show qaz _ ((H'.obj id).slot H'.len id p);rw[hobj id e1 e2];exact qb7 hb,
  fun id p h hb=>by
   obtain⟨e1,e2⟩:=hne id p h hb;exact qad.qdn (hobj id e1 e2) p⟩
 have hsk:∀kk w,kk∈ks->s.heap.obj kk=.lst w->∀q,H1.slot ⟨kk,q⟩=(OD.lst w).slot s.heap.len kk q:=fun kk w hk hw q=>by
  rw[h1,if_neg (fun e=>kksk kk hk (by injection e))];show(s.heap.obj kk).slot _ _ _=_;rw[hw]
 have hsL:∀c r q,r<n1->H1.slot ⟨k,c::r::q⟩=(OD.lst v1).slot s.heap.len k (c::r::q):=fun c r q hr=>by
  rw[h1,if_neg (fun e=>by injection e with _ e;cases e)]
  exact hold c r q hr
 -- a list that moves, cell by cell
 have cellM:∀(root root':LV) (ko:Nat) (qo qn:List Nat) (a:LV),root.at qo=some a->root'.at qn=some a->(∀c' r',H1.slot ⟨ko,qo++[c',r']⟩=(OD.lst root).slot s.heap.len ko (qo++[c',r']))->(∀c' r',(toH H').slot ⟨k2,qn++[c',r']⟩=(OD.lst root').slot H'.len k2 (qn++[c',r'])) ->
   (∀c' r',m ⟨k2,qn++[c',r']⟩=some ⟨ko,qo++[c',r']⟩)->∀r' c',KG H1 (toH H') m (fun _=>False) (qbd s.heap.len ko qo r' c' (qam a.N (a.row r') c')) (qbd H'.len k2 qn r' c' (qam a.N (a.row r') c')):=fun root root' ko qo qn a ao an so sn em r' c'=>by
  cases hx:qam a.N (a.row r') c' with
  |ev u=>exact KG.dat (qbf _ _ _ _ hx)
  |own t e l=>
   simp only[qbd];have e1:H1.slot ⟨ko,qo++[c',r']⟩=.live (LV.obj s.heap.len ko (qo++[c',r']) ⟨t,e,l⟩):=by rw[so];exact qcs ao hx
   have e2:(toH H').slot ⟨k2,qn++[c',r']⟩=.live (LV.obj H'.len k2 (qn++[c',r']) ⟨t,e,l⟩):=by rw[sn];exact qcs an hx
   exact KG.qbq e1 e2 (em c' r') rfl rfl rfl rfl (by show 0+l.length<=l.length;omega)
 have gen:Gen H1 (toH H') m (fun _=>False):=by
  refine Gen.qa9 (fun j=>j∈k::ks\/j=k2) hkk hf.obj (fun j hj=>?_) (fun i hi o' ho=>?_) (fun i hi sb g' hm=>?_) (fun i j x hi h1' h2' e1 e2=>?_) (by rw[hlo];rfl) (fun i hi=>?_) (fun i hi hil hip=>?_)
  ·have e1:j∉k::ks:=fun e=>hj (.inl e);have e2:j≠k2:=fun e=>hj (.inr e);exact⟨fun p=>qrd.2 e1,hobj j e1 e2,fun p=>mo j p e1 e2,fun p h=>h,fun p=>by rw[h1,if_neg (fun e=>e1 (by injection e with e _;rw[e];exact zg5 ..))]⟩
  ·obtain⟨j,p⟩:=i;have hj:j=k2:=by
    rcases hi with e|e
    ·by_cases e2:j=k2
     ·exact e2
     ·rw[hdead j e e2]at ho;cases ho
    ·exact e
   subst hj;rw[hsl2]at ho
   match p,ho with
   |[],ho=>
    simp only[OD.slot,LV.qa6]at ho;injection ho with ho;subst ho;refine .inr ⟨⟨k,[]⟩,a1,m0,by rw[h1,if_pos rfl],fun h=>h,ha1,ha2,by show v.l.length<=a1.n;omega,fun r hr c hc=>?_⟩
    have hr:r<v.l.length:=hr;have hc:c<v1.N.sz:=hc;show KG _ _ _ _ _ (qbd H'.len j [] r c (qam v1.N (v.row r) c));by_cases hrl:r<n1
    ·rw[rowL r hrl];refine KG.qhy (hget1 r hrl c (by omega)) ?_;cases hx:qam v1.N (v1.row r) c with
     |ev u=>exact KG.dat (qbf _ _ _ _ hx)
     |own t e l=>
      simp only[qbd,zhv];have ao:v1.at [c,r]=some ⟨t,e,l⟩:=by rw[LV.at_one];exact LV.qd8 hx
      have e1:H1.slot ⟨k,[c,r]⟩=.live (LV.obj s.heap.len k [c,r] ⟨t,e,l⟩):=by
       rw[hsL c r [] hrl];simp only[OD.slot,ao]
      have e2:(toH H').slot ⟨j,[c,r]⟩=.live (LV.obj H'.len j [c,r] ⟨t,e,l⟩):=by
       rw[hsl2];simp only[OD.slot,kidL c r [] hrl,ao]
      exact KG.qbq e1 e2 (mL c r [] hrl) rfl rfl rfl rfl (by show 0+l.length<=l.length;omega)
    ·have hrn:r=n1:=by omega
     subst hrn;rw[rowN];refine KG.qhy (hget2 c (by omega)) ?_;rcases hy.cell c with⟨u,c1,c2⟩|⟨kk,w,c1,c2,c3,c4⟩|⟨c1,_⟩
     ·rw[c1];exact KG.qhy (c2 hc s.heap.len) (KG.dat (qbf _ _ _ _ c1))
     ·rw[<- qey,c1,c4];have hg:g c=some kk:=by simp only[g,zb3,c1,c4]
      have lk:s.heap.len kk []=some w.l.length:=by
       unfold qad.len;rw[c3];simp only[OD.len,LV.qa6]
      simp only[qbd,toV,lk,zhv];have an:v.at [c,n1]=some w:=by
       rw[LV.at_one];refine LV.qd8 ?_;show qam v1.N (v.row n1) c=_;rw[rowN];exact c4
      have e1:H1.slot ⟨kk,[]⟩=.live (LV.obj s.heap.len kk [] w):=by rw[hsk kk w c2 c3];simp only[OD.slot,LV.qa6]
      have e2:(toH H').slot ⟨j,[c,n1]⟩=.live (LV.obj H'.len j [c,n1] w):=by rw[hsl2];simp only[OD.slot,an]
      exact KG.qbq e1 e2 (mN c [] kk hg) rfl rfl rfl rfl (by show 0+w.l.length<=w.l.length;omega)
     ·omega
   |[x],ho=>simp only[OD.slot,LV.qfi]at ho;cases ho
   |c::r::q,ho=>
    simp only[OD.slot]at ho;cases ha':v.at (c::r::q)with
    |none=>rw[ha']at ho;cases ho
    |some a'=>
     rw[ha']at ho;injection ho with ho;subst ho;by_cases hrl:r<n1
     ·have ao:v1.at (c::r::q)=some a':=by rw[<- kidL c r q hrl];exact ha'
      refine .inr ⟨⟨k,c::r::q⟩,LV.obj s.heap.len k (c::r::q) a',mL c r q hrl,?_,fun h=>h,rfl,rfl,zg3 _,fun r' hr' c' _=>cellM v1 v k (c::r::q) (c::r::q) a' ao ha' (fun c' r'=>hsL c r (q++[c',r']) hrl) (fun c' r'=>hsl2 _) (fun c' r'=>mL c r (q++[c',r']) hrl) r' c'⟩;rw[hsL c r q hrl];simp only[OD.slot,ao]
     ·by_cases hrn:r=n1
      ·subst hrn;rw[LV.qbu]at ha';cases hkid:v.kid c n1 with
       |none=>rw[hkid]at ha';cases ha'
       |some kd=>
        rw[hkid]at ha';have hkc:=LV.qgh hkid;have hkc:qam v1.N y c=.own kd.e kd.N kd.l:=by
         have:qam v1.N (v.row n1) c=.own kd.e kd.N kd.l:=hkc;rwa [rowN]at this
        rcases hy.cell c with⟨u,c1,c2⟩|⟨kk,w,c1,c2,c3,c4⟩|⟨c1,t,e,c2⟩
        ·rw[c1]at hkc;cases hkc
        ·have hw:w=kd:=by
          rw[c4]at hkc;injection hkc with x1 x2 x3;cases w;cases kd;simp only at x1 x2 x3;subst x1;subst x2;obtain rfl:=eq_of_heq x3;rfl
         subst hw;have hg:g c=some kk:=by simp only[g,zb3,c1,c4]
         refine .inr ⟨⟨kk,q⟩,LV.obj s.heap.len kk q a',mN c q kk hg,?_,fun h=>h,rfl,rfl,zg3 _,fun r' hr' c' _=>cellM w v kk q (c::n1::q) a' ha' (by rw[LV.qbu,hkid];exact ha') (fun c' r'=>hsk kk w c2 c3 _) (fun c' r'=>hsl2 _) (fun c' r'=>mN c (q++[c',r']) kk hg) r' c'⟩
         rw[hsk kk w c2 c3];simp only[OD.slot,ha']
        ·refine .inl ⟨?_,?_⟩
         ·have hg:g c=none:=by
           simp only[g,zb3,qix (show al.length<=c by omega)]
          simp only[m,if_true,zio,if_false,hg]
         ·rw[c2]at hkc;injection hkc with _ x2 x3;have:kd.l=[]:=by
           cases kd;simp only at x2 x3 ⊢;subst x2;exact(eq_of_heq x3).symm
          have:=LV.qgl q kd a' this ha';show a'.l.length=0;rw[this];rfl
      ·refine .inl ⟨by simp only[m,if_true,if_neg hrl,if_neg hrn],?_⟩;rw[LV.qbu]at ha';cases hkid:v.kid c r with
       |none=>rw[hkid]at ha';cases ha'
       |some kd=>
        rw[hkid]at ha';have hkc:=LV.qgh hkid;have hkc:qam v1.N (v.row r) c=.own kd.e kd.N kd.l:=hkc;rw[rowO r (by omega)]at hkc;have:=qn0 _ _ _ _ _ hkc;have:=LV.qgl q kd a' this ha';show a'.l.length=0;rw[this];rfl
  ·obtain⟨j,p⟩:=i;exfalso;have hj:j=k2:=by
    rcases hi with e|e
    ·by_cases e2:j=k2
     ·exact e2
     ·rw[hdead j e e2]at hm;cases hm
    ·exact e
   subst hj;rw[hsl2]at hm;simp only[OD.slot]at hm;cases hv:v.at p<;>rw[hv]at hm<;>cases hm
  ·obtain⟨j1,p1⟩:=i;obtain⟨j2,p2⟩:=j;have hj:j1=k2:=by
    rcases hi with e|e
    ·by_cases e2:j1=k2
     ·exact e2
     ·simp only at e;rw[hdead j1 e e2]at h1';exact h1'.elim
    ·exact e
   subst hj;have key:∀p y,m ⟨j1,p⟩=some y->(p=[]/\y=⟨k,[]⟩)\/(∃c r q,p=c::r::q/\r<n1/\y=⟨k,c::r::q⟩)\/∃c q kk,p=c::n1::q/\g c=some kk/\y=⟨kk,q⟩:=fun p y e=>by
    match p,e with
    |[],e=>rw[m0]at e;injection e with e;exact .inl ⟨rfl,e.symm⟩
    |[_],e=>simp only[m,if_true]at e;cases e
    |c::r::q,e=>
     by_cases hr:r<n1
     ·rw[mL c r q hr]at e;injection e with e;exact .inr (.inl ⟨c,r,q,rfl,hr,e.symm⟩)
     ·by_cases hr2:r=n1
      ·subst hr2;cases hg:g c with
       |none=>simp only[m,if_true,zio,if_false,hg]at e;cases e
       |some kk=>rw[mN c q kk hg]at e;injection e with e;exact .inr (.inr ⟨c,q,kk,rfl,hg,e.symm⟩)
      ·simp only[m,if_true,if_neg hr,if_neg hr2]at e;cases e
   have gks:∀c kk,g c=some kk->kk∈ks/\qdb al c=.qa5 kk []:=fun c kk hg=>by
    simp only[g,zb3]at hg;split at hg
    ·rename_i kk' t e l x1 x2;injection hg with hg;subst hg;rcases hy.cell c with⟨u,c1,c2⟩|⟨kk,w,c1,c2,c3,c4⟩|⟨c1,t,e,c2⟩
     ·rw[c1]at x2;cases x2
     ·rw[c1]at x1;injection x1 with x1;subst x1;exact⟨c2,c1⟩
     ·rw[qix (show al.length<=c by omega)]at x1;cases x1
    ·cases hg
   have other:∀p y,j2≠j1->m ⟨j2,p⟩=some y->j2∉k::ks/\y=⟨j2,p⟩:=fun p y hn e=>by
    by_cases hm:j2∈k::ks
    ·simp only[m,if_neg hn,if_pos hm]at e;cases e
    ·rw[mo j2 p hm hn]at e;injection e with e;exact⟨hm,e.symm⟩
   by_cases hj2:j2=j1
   ·subst hj2;rcases key p1 x e1 with⟨rfl,x1⟩|⟨c,r,q,rfl,hr,x1⟩|⟨c,q,kk,rfl,hg,x1⟩<;>rcases key p2 x e2 with⟨rfl,x2⟩|⟨c2,r2,q2,rfl,hr2,x2⟩|⟨c2,q2,kk2,rfl,hg2,x2⟩<;>rw[x1]at x2<;>injection x2 with y1 y2
    ·cases y2
    ·exact absurd y1.symm (kksk kk2 (gks c2 kk2 hg2).1)
    ·cases y2
    ·rw[y2]
    ·exact absurd y1.symm (kksk kk2 (gks c2 kk2 hg2).1)
    ·exact absurd y1 (kksk kk (gks c kk hg).1)
    ·exact absurd y1 (kksk kk (gks c kk hg).1)
    ·subst y1;subst y2;rw[hy.inj c c2 kk (gks c kk hg).2 (gks c2 kk hg2).2 (gks c kk hg).1]
   ·obtain⟨z1,z2⟩:=other p2 x hj2 e2;exfalso;rcases key p1 x e1 with⟨rfl,x1⟩|⟨c,r,q,rfl,hr,x1⟩|⟨c,q,kk,rfl,hg,x1⟩<;>rw[z2]at x1<;>injection x1 with y1 y2
    ·exact z1 (by rw[y1];exact zg5 ..)
    ·exact z1 (by rw[y1];exact zg5 ..)
    ·exact z1 (by rw[y1];exact zg8 _ (gks c kk hg).1)
  ·have hi:nx<=i.k:=hi;have hks:∀kk,kk∈ks->kk<s.heap.next:=fun kk h=>Classical.byContradiction fun hn=>by
    obtain⟨w,hw⟩:=hy.live kk h;have:=hf.next ⟨kk,[]⟩ (zhz hn);have e:(toH s.heap).slot ⟨kk,[]⟩=(OD.lst w).slot s.heap.len kk []:=by show(s.heap.obj kk).slot _ _ _=_;rw[hw]
    rw[e]at this;simp only[OD.slot,LV.qa6]at this;cases this
   have e1:i.k∉k::ks:=fun e=>by
    rcases zhr.1 e with e|e
    ·omega
    ·have:=hks _ e;omega
   have e2:i.k≠k2:=by omega
   show(H'.obj i.k).slot _ _ _=_;rw[hobj _ e1 e2];exact qcm.2 (hf.next i (by omega))
  ·obtain⟨j,p⟩:=i;simp only at hip hil;subst hip;rw[hlo]at hil;have e2:j≠k2:=fun e=>by omega
   rcases hi with e|e
   ·exact .inr (.inl (hdead j e e2 []))
   ·exact absurd e e2
 refine qgs.gen m (fun _=>False) (by rw[qaw,qg2,qg2];rfl) (by rw[qcr,qaw,qcr];exact gen) (fun t=>?_)
 have hh1:(((qbc s).on H1).put d u0).heap=H1:=by rw[qcr];rfl
 have hh2:(qbc ((s.qxs (k::ks) k2 nx v).put d (.qa5 k2 []))).heap=toH H':=by rw[qaw,qcr];rfl
 rw[hh1,hh2,qaw];have l2:H'.len k2 []=some v.l.length:=by
  unfold qad.len;rw[hobj2];simp only[OD.len,LV.qa6]
 have hlast:toV H'.len (.qa5 k2 [])=.qbq ⟨k2,[]⟩ 0 0 v.l.length:=by
  simp only[toV,l2]
 show KG H1 (toH H') m _ ((((qbc s).on H1).put d u0).env t) (((qbc (s.qxs (k::ks) k2 nx v)).put d (toV H'.len (.qa5 k2 []))).env t);have base:KG H1 (toH H') m (fun _=>False) (toV s.heap.len (s.env t)) (toV H'.len (qa9 f (s.env t))):=qbm.keeps hkk _ (hf.env t);cases d with
 |none=>exact base
 |some d=>
  simp only[St.put];cases Nat.beq t d with
  |false=>exact base
  |true=>
   show KG _ _ _ _ (bif Nat.blt d s.nt then u0 else .un) (bif Nat.blt d s.nt then toV H'.len (.qa5 k2 [])else .un);cases Nat.blt d s.nt with
   |false=>exact KG.un
   |true=>
    simp only[cond_true];rw[hlast];refine KG.qhy (hu (fun e=>by cases e)) ?_;have e3:v.l.length=a1.n:=by rw[vn];exact ha3
    rw[<- e3];have h2:(toH H').slot ⟨k2,[]⟩=.live (v.obj H'.len k2 []):=by rw[hsl2];simp only[OD.slot,LV.qa6]
    exact KG.qbq (i:=⟨k,[]⟩) (j:=⟨k2,[]⟩) (by rw[h1,if_pos rfl]) h2 m0 rfl rfl ha2 ha1 (zij (zg9 _))
end
end
end Go.Abs
namespace Go.Abs
noncomputable section
variable {P:Program} {d:Option Tmp} {ty:TypeId} {L:List GOp} {ρ:Type}
section
variable [SU] [qa2] {Q:Exit->ESt->Prop}
def qad.q2p(H:qad)(id k n:Nat)(root:LV)(p:List Nat)(r c:Nat)(w:LV):qad:=
 { H with next:=k+1,obj:=fun j=>bif Nat.beq j id then .hole root p r c (.qa5 k [])else bif Nat.beq j k then .lst w else qbw (qxq id k n) (H.obj j) }
def ESt.q2p(s:ESt)(id k n:Nat)(root:LV)(p:List Nat)(r c:Nat)(w:LV)(tx:Tmp):ESt:=
 { s with env:=fun t=>bif Nat.beq t tx then .qa5 k []else qa9 (qxq id k n) (s.env t),heap:=s.heap.q2p id k n root p r c w }
theorem qe2{len:Len}{k:Nat}{v:LV}{p q:List Nat}{r c:Nat}{u:EV}{a:LV}(hq:¬ p++[c,r] <+: q)(ha:v.at q=some a):(OD.hole v p r c u).slot len k q=.live (a.qj0 len k q p r c u):=by
 simp only[OD.slot,if_neg hq,ha]
theorem qr6{len:Len}{k:Nat}{v:LV}{p q:List Nat}{r c:Nat}{u:EV}(hq:¬ p++[c,r] <+: q)(ha:v.at q=none):(OD.hole v p r c u).slot len k q=.qae:=by
 simp only[OD.slot,if_neg hq,ha]
theorem q8w{len:Len}{k:Nat}{v:LV}{p q:List Nat}{r c:Nat}{u:EV}(hq:p++[c,r] <+: q):(OD.hole v p r c u).slot len k q=.dead:=by
 simp only[OD.slot,if_pos hq]
theorem not_under{p q:List Nat}{r c r' c':Nat}(hp:p.length % 2=0)(hq:q.length % 2=0)(hn:¬ p++[c,r] <+: q)(hne:¬ (q=p/\r'=r/\c'=c)):¬ p++[c,r] <+: q++[c',r']:=fun⟨z,hz⟩=>by
 have hlen:=congrArg List.length hz;simp only[zg6,zg1,zg7]at hlen;by_cases hz0:z=[]
 ·subst hz0;rw[zht]at hz;have h2:p=q/\[c,r]=[c',r']:=List.append_inj' hz rfl;have h3:=h2.2;simp only[List.cons.injEq,and_true]at h3;exact hne ⟨h2.1.symm,h3.2.symm,h3.1.symm⟩
 ·have hzl:z.length≠0:=fun e=>hz0 (zi4 e);refine hn (List.prefix_of_prefix_length_le ⟨z,hz⟩ (List.prefix_append q [c',r']) ?_);simp only[zg6,zg1,zg7];omega
theorem qb1.q2p{s:ESt}{id:Nat}{p:List Nat}{root v w:LV}{r c:Nat}{tx:Tmp}(hik:id<s.heap.next)(ho:s.heap.obj id=.lst root)(hv:root.at p=some v)(hr:r<v.l.length)
  (hc:c<v.N.sz) (hw:qam v.N (v.row r) c=.own w.e w.N w.l) (htx:s.env tx=.qa5 id (p++[c,r])) :
  qb1 s (s.q2p id s.heap.next (p.length+2) root p r c w tx):=qgs.fair fun hf=>by
 let k:=s.heap.next
 let PP:List Nat:=p++[c,r]
 let m:Id->Option Id:=tkM id k PP
 let f:=qxq id k (p.length+2)
 let H':=s.heap.q2p id k (p.length+2) root p r c w
 have hne:id≠k:=Nat.ne_of_lt hik;have hpe:=LV.qgk p root v hv;have hPP:PP.length=p.length+2:=by simp[PP]
 have eV:root.at PP=some w:=by
  rw[LV.qbv _ _ _ _ hv,LV.at_one];exact LV.qd8 hw
 have atP:∀q,root.at (PP++q)=w.at q:=fun q=>by rw[LV.qbv _ _ _ _ eV]
 have hobj:∀j,j≠id->j≠k->H'.obj j=qbw f (s.heap.obj j):=fun j e1 e2=>by simp only[H',qad.q2p,qav e1,qav e2,cond_false];rfl
 have hobji:H'.obj id=.hole root p r c (.qa5 k []):=by simp only[H',qad.q2p,zhc,cond_true]
 have hobjk:H'.obj k=.lst w:=by simp only[H',qad.q2p,qav (fun e=>hne e.symm),cond_false,zhc,cond_true]
 have hsl:∀q,(toH s.heap).slot ⟨id,q⟩=(OD.lst root).slot s.heap.len id q:=fun q=>by show(s.heap.obj id).slot _ _ _=_;rw[ho]
 have hslk:∀q,(toH s.heap).slot ⟨k,q⟩=.qae:=fun q=>hf.next ⟨k,q⟩ (zg3 _);have hsl':∀q,(toH H').slot ⟨id,q⟩=(OD.hole root p r c (.qa5 k [])).slot H'.len id q:=fun q=>by show(H'.obj id).slot _ _ _=_;rw[hobji]
 have hslk':∀q,(toH H').slot ⟨k,q⟩=(OD.lst w).slot H'.len k q:=fun q=>by show(H'.obj k).slot _ _ _=_;rw[hobjk]
 have fn:∀j q,f j q=none->j≠k/\¬ (j=id/\PP <+: q):=fun j q h=>by
  obtain⟨e1,e2⟩:=qnk h;exact⟨e1,fun⟨x,y⟩=>e2 ⟨x,by rw[<- hPP];exact y.length_le⟩⟩
 have mo:∀j q,j≠id->j≠k->m ⟨j,q⟩=some ⟨j,q⟩:=fun j q e1 e2=>by simp only[m,tkM,if_neg e2,e1,false_and,if_false]
 have mi:∀q,¬ PP <+: q->m ⟨id,q⟩=some ⟨id,q⟩:=fun q e=>by simp only[m,tkM,if_neg hne,e,and_false,if_false]
 have mk:∀q,m ⟨k,q⟩=some ⟨id,PP++q⟩:=fun q=>by simp only[m,tkM,if_true]
 have hkk:qbm f s.heap (toH s.heap) H' m (fun _=>False):=⟨fun j q u h=>by
   have:u=.un:=qnj h;rw[this];simp only[toV];exact KG.un,
  fun j q h hb=>by
   obtain⟨e1,e2⟩:=fn j q h;by_cases hj:j=id
   ·subst hj;have hq:¬ PP <+: q:=fun e=>e2 ⟨rfl,e⟩;refine .inr ⟨?_,mi q hq⟩;rw[hsl',hsl];rw[hsl]at hb;cases ha:root.at q with
    |none=>simp only[OD.slot,ha]at hb;exact absurd rfl hb
    |some a=>
     rw[qe2 hq ha];simp only[OD.slot,ha];exact⟨rfl,rfl,rfl,rfl⟩
   ·refine .inr ⟨?_,mo j q hj e1⟩;show qaz _ ((H'.obj j).slot H'.len j q);rw[hobj j hj e1];exact qb7 hb,
  fun j q h hb=>by
   obtain⟨e1,e2⟩:=fn j q h;by_cases hj:j=id
   ·subst hj;unfold qad.len;rw[hobji,ho];simp only[OD.len]
   ·exact qad.qdn (hobj j hj e1) q⟩
 have fo:∀j,j≠id->j≠k->∀q,f j q=none:=fun j e1 e2 q=>qhq e2 (fun e=>absurd e e1);have l1:s.heap.len id PP=some w.l.length:=by
  unfold qad.len;rw[ho];simp only[OD.len,eV]
 have l2:H'.len k []=some w.l.length:=by
  unfold qad.len;rw[hobjk];simp only[OD.len,LV.qa6]
 have e1P:(toH s.heap).slot ⟨id,PP⟩=.live (LV.obj s.heap.len id PP w):=by rw[hsl];simp only[OD.slot,eV]
 have e2K:(toH H').slot ⟨k,[]⟩=.live (LV.obj H'.len k [] w):=by rw[hslk'];simp only[OD.slot,LV.qa6]
 have emK:m ⟨k,[]⟩=some ⟨id,PP⟩:=by rw[mk,zht]
 have link:KG (toH s.heap) (toH H') m (fun _=>False) (.qbq ⟨id,PP⟩ 0 0 w.l.length) (.qbq ⟨k,[]⟩ 0 0 w.l.length):=KG.qbq e1P e2K emK rfl rfl rfl rfl (by show 0+w.l.length<=w.l.length;omega)
 -- cells of the list that moves
 have cellM:∀(q:List Nat) (a:LV),w.at q=some a->∀r' c',r'<a.l.length->KG (toH s.heap) (toH H') m (fun _=>False) (qbd s.heap.len id (PP++q) r' c' (qam a.N (a.row r') c')) (qbd H'.len k q r' c' (qam a.N (a.row r') c')):=fun q a ha r' c' hr'=>by
  cases hx:qam a.N (a.row r') c' with
  |ev u=>exact KG.dat (qbf _ _ _ _ hx)
  |own t e l=>
   simp only[qbd];have e1:(toH s.heap).slot ⟨id,PP++q++[c',r']⟩=.live (LV.obj s.heap.len id (PP++q++[c',r']) ⟨t,e,l⟩):=by
    rw[hsl];exact qcs (by rw[atP];exact ha) hx
   have e2:(toH H').slot ⟨k,q++[c',r']⟩=.live (LV.obj H'.len k (q++[c',r']) ⟨t,e,l⟩):=by
    rw[hslk'];exact qcs ha hx
   refine KG.qbq (o:=LV.obj s.heap.len id (PP++q++[c',r']) ⟨t,e,l⟩) e1 e2 ?_ rfl rfl rfl rfl (by show 0+l.length<=l.length;omega)
   rw[mk];exact congrArg (fun z=>some (Id.mk id z)) (zib PP q [c',r']).symm
 have idlive:(toH s.heap).slot ⟨id,[]⟩≠.qae:=by rw[hsl];simp only[OD.slot,LV.qa6];intro e;cases e
 -- cells of the lists that stay
 have cellS:∀(q:List Nat) (a:LV),root.at q=some a->¬ PP <+: q->∀r' c',¬ (q=p/\r'=r/\c'=c) ->
   KG (toH s.heap) (toH H') m (fun _=>False) (qbd s.heap.len id q r' c' (qam a.N (a.row r') c')) (qbd H'.len id q r' c' (qam a.N (a.row r') c')):=fun q a ha hnq r' c' hne=>by
  cases hx:qam a.N (a.row r') c' with
  |ev u=>exact KG.dat (qbf _ _ _ _ hx)
  |own t e l=>
   simp only[qbd];have np:¬ PP <+: q++[c',r']:=not_under hpe (LV.qgk _ _ _ ha) hnq hne;have ek:root.at (q++[c',r'])=some ⟨t,e,l⟩:=by rw[LV.qbv _ _ _ _ ha,LV.at_one,LV.qd8 hx]
   have e1:(toH s.heap).slot ⟨id,q++[c',r']⟩=.live (LV.obj s.heap.len id (q++[c',r']) ⟨t,e,l⟩):=by rw[hsl];exact qcs ha hx
   have e2:(toH H').slot ⟨id,q++[c',r']⟩=.live (LV.qj0 H'.len id (q++[c',r']) ⟨t,e,l⟩ p r c (.qa5 k [])):=by rw[hsl'];exact qe2 np ek
   exact KG.qbq e1 e2 (mi _ np) rfl rfl rfl rfl (by show 0+l.length<=l.length;omega)
 have gen:Gen (toH s.heap) (toH H') m (fun _=>False):=by
  refine Gen.qa9 (fun j=>j=id\/j=k) hkk hf.obj (fun j hj=>?_) (fun i hi o' ho'=>?_) (fun i hi sb g' hm=>?_) (fun i j x hi h1' h2' e1 e2=>?_) rfl (fun i hi=>?_) (fun i hi hil hip=>?_)
  ·have e1:j≠id:=fun e=>hj (.inl e);have e2:j≠k:=fun e=>hj (.inr e);exact⟨fo j e1 e2,hobj j e1 e2,fun q=>mo j q e1 e2,fun q h=>h,fun q=>rfl⟩
  ·obtain⟨j,q⟩:=i;by_cases hj:j=id
   ·subst hj;rw[hsl']at ho';by_cases hq:PP <+: q
    ·rw[q8w hq]at ho';cases ho'
    cases ha:root.at q with
    |none=>rw[qr6 hq ha]at ho';cases ho'
    |some a=>
     rw[qe2 hq ha]at ho';injection ho' with ho';subst ho';refine .inr ⟨⟨j,q⟩,LV.obj s.heap.len j q a,mi q hq,?_,fun h=>h,rfl,rfl,zg3 _,fun r' hr' c' hc'=>?_⟩
     ·rw[hsl];simp only[OD.slot,ha]
     ·simp only[LV.qj0,LV.obj];by_cases hx:q=p/\r'=r/\c'=c
      ·rw[if_pos hx];obtain⟨rfl,rfl,rfl⟩:=hx;rw[hv]at ha;injection ha with ha;subst ha;rw[hw];simp only[qbd,toV,l2];exact link
      ·rw[if_neg hx];exact cellS q a ha hq r' c' hx
   ·have hj2:j=k:=hi.resolve_left hj;subst hj2;rw[hslk']at ho';simp only[OD.slot]at ho';cases ha':w.at q with
    |none=>rw[ha']at ho';cases ho'
    |some a'=>
     rw[ha']at ho';injection ho' with ho';subst ho';refine .inr ⟨⟨id,PP++q⟩,LV.obj s.heap.len id (PP++q) a',mk q,?_,fun h=>h,rfl,rfl,zg3 _,fun r' hr' c' _=>cellM q a' ha' r' c' hr'⟩;rw[hsl];simp only[OD.slot,atP,ha']
  ·obtain⟨j,q⟩:=i;by_cases hj:j=id
   ·subst hj;rw[hsl']at hm;simp only[OD.slot]at hm;split at hm
    ·cases hm
    ·cases ha':root.at q<;>rw[ha']at hm<;>cases hm
   ·have hj2:j=k:=hi.resolve_left hj;subst hj2;rw[hslk']at hm;simp only[OD.slot]at hm;cases ha':w.at q<;>rw[ha']at hm<;>cases hm
  ·obtain⟨j1,q1⟩:=i;obtain⟨j2,q2⟩:=j;have key:∀q y,m ⟨id,q⟩=some y->¬ PP <+: q/\y=⟨id,q⟩:=fun q y e=>by
    by_cases hq:PP <+: q
    ·simp only[m,tkM,if_neg hne,hq,and_self,if_true]at e;cases e
    ·rw[mi q hq]at e;injection e with e;exact⟨hq,e.symm⟩
   by_cases n1:j1=id
   ·subst n1;obtain⟨p1,x1⟩:=key q1 x e1;by_cases n2:j2=j1
    ·subst n2;obtain⟨p2,x2⟩:=key q2 x e2;rw[<- x1,<- x2]
    ·by_cases n3:j2=k
     ·subst n3;rw[mk]at e2;injection e2 with e2;rw[x1]at e2;injection e2 with _ e2;exact absurd ⟨q2,e2⟩ p1
     ·rw[mo j2 q2 n2 n3]at e2;injection e2 with e2;rw[x1]at e2;injection e2 with e2 _;exact absurd e2 n2
   ·have hj:j1=k:=hi.resolve_left n1;subst hj;rw[mk]at e1;injection e1 with e1;by_cases n2:j2=id
    ·subst n2;obtain⟨p2,x2⟩:=key q2 x e2;rw[x2]at e1;injection e1 with _ e1;exact absurd ⟨q1,e1⟩ p2
    ·by_cases n3:j2=k
     ·subst n3;rw[mk]at e2;injection e2 with e2;rw[<- e1]at e2;injection e2 with _ e2;rw[List.append_cancel_left e2]
     ·rw[mo j2 q2 n2 n3]at e2;injection e2 with e2;rw[<- e1]at e2;injection e2 with e2 _;exact absurd e2 n2
  ·have hi:s.heap.next+1<=i.k:=hi;have e1:i.k≠id:=by omega
   have e2:i.k≠k:=by show i.k≠s.heap.next;omega
   show(H'.obj i.k).slot _ _ _=_;rw[hobj _ e1 e2];exact qcm.2 (hf.next i (by omega))
  ·obtain⟨j,q⟩:=i;simp only at hip hil;subst hip;by_cases hj:j=id
   ·subst hj;have fnone:f j []=none:=qhq hne (fun _=>by simp);rcases hkk.slot j [] fnone idlive with h|⟨h,h'⟩
    ·exact .inr (.inl h)
    ·exact .inr (.inr ⟨h',h⟩)
   ·have hj2:j=k:=hi.resolve_left hj;subst hj2;exact .inl (hslk [])
 refine qgs.gen m (fun _=>False) rfl gen (fun t=>?_);show KG (toH s.heap) (toH H') m (fun _=>False) (toV s.heap.len (s.env t)) (toV H'.len (bif Nat.beq t tx then .qa5 k []else qa9 f (s.env t)));cases ht:Nat.beq t tx with
 |false=>exact qbm.keeps hkk _ (hf.env t)
 |true=>
  obtain rfl:=qbl ht;rw[htx];simp only[cond_true,toV];rw[show p++[c,r]=PP from rfl,l1,l2];exact link
theorem qb1.qyb{s:ESt}{id k:Nat}{p:List Nat}{root v root' w:LV}{r c:Nat}{y:v.N.D}(hik:id≠k)(ho:s.heap.obj id=.hole root p r c (.qa5 k []))(hk:s.heap.obj k=.lst w)(hv:root.at p=some v)(hr:r<v.l.length)
  (hc:c<v.N.sz) (hy1:qam v.N y c=.own w.e w.N w.l) (hy2:∀c',c'≠c->qam v.N y c'=qam v.N (v.row r) c') (hp:root.put p (v.setRow r y)=some root') :
  qb1 s (s.att id k (p++[c,r]) root'):=qgs.fair fun hf=>by
 let PP:List Nat:=p++[c,r]
 let m:Id->Option Id:=q2r id k PP
 let f:=qxq id k PP.length
 let H':=s.heap.att id k PP root'
 obtain⟨a1,a2,a3,a4⟩:=LV.qu4 p root v root' r c y hv hr hy2 hp;have hpe:=LV.qgk p root v hv;have hPP:PP.length=p.length+2:=by simp[PP]
 have atP:∀q,root'.at (PP++q)=w.at q:=fun q=>by
  have e1:root'.at PP=some ⟨w.e,w.N,w.l⟩:=by
   rw[LV.qbv _ _ _ _ a1,LV.at_one];refine LV.qd8 ?_;rw[LV.qbx hr,if_pos rfl];exact hy1
  rw[LV.qbv _ _ _ _ e1]
 have hobj:∀j,j≠id->j≠k->H'.obj j=qbw f (s.heap.obj j):=fun j e1 e2=>by simp only[H',qad.att,qav e1,qav e2,cond_false];rfl
 have hobji:H'.obj id=.lst root':=by simp only[H',qad.att,zhc,cond_true]
 have hobjk:H'.obj k=.dead:=by simp only[H',qad.att,qav (fun e=>hik e.symm),cond_false,zhc,cond_true]
 have hsl:∀q,(toH s.heap).slot ⟨id,q⟩=(OD.hole root p r c (.qa5 k [])).slot s.heap.len id q:=fun q=>by show(s.heap.obj id).slot _ _ _=_;rw[ho]
 have hslk:∀q,(toH s.heap).slot ⟨k,q⟩=(OD.lst w).slot s.heap.len k q:=fun q=>by show(s.heap.obj k).slot _ _ _=_;rw[hk]
 have hsl':∀q,(toH H').slot ⟨id,q⟩=(OD.lst root').slot H'.len id q:=fun q=>by show(H'.obj id).slot _ _ _=_;rw[hobji]
 have fn:∀j q,f j q=none->j≠k/\¬ (j=id/\PP <+: q):=fun j q h=>by
  obtain⟨e1,e2⟩:=qnk h;exact⟨e1,fun⟨x,y⟩=>e2 ⟨x,y.length_le⟩⟩
 have mo:∀j q,j≠id->j≠k->m ⟨j,q⟩=some ⟨j,q⟩:=fun j q e1 e2=>by simp only[m,q2r,if_neg e1,if_neg e2]
 have mi:∀q,¬ PP <+: q->m ⟨id,q⟩=some ⟨id,q⟩:=fun q e=>by simp only[m,q2r,if_true,if_neg e]
 have mp:∀q,m ⟨id,PP++q⟩=some ⟨k,q⟩:=fun q=>by
  simp only[m,q2r,if_true];rw[if_pos ⟨q,rfl⟩];simp
 have mk:∀q,m ⟨k,q⟩=none:=fun q=>by simp only[m,q2r,if_neg (fun e:k=id=>hik e.symm),if_true]
 have npp:¬ PP <+: p:=fun h=>by have:=h.length_le;omega
 have hkk:qbm f s.heap (toH s.heap) H' m (fun _=>False):=⟨fun j q u h=>by
   have:u=.un:=qnj h;rw[this];simp only[toV];exact KG.un,
  fun j q h hb=>by
   obtain⟨e1,e2⟩:=fn j q h;by_cases hj:j=id
   ·subst hj;have hq:¬ PP <+: q:=fun e=>e2 ⟨rfl,e⟩;refine .inr ⟨?_,mi q hq⟩;rw[hsl',hsl];rw[hsl]at hb;rcases a2 q hq with⟨x1,x2⟩|⟨x,x',x1,x2,x3⟩
    ·rw[qr6 hq x2]at hb;exact absurd rfl hb
    ·rw[qe2 hq x1];simp only[OD.slot,x2];exact⟨rfl,x3.e,by show x'.N.sz=x.N.sz;rw[x3.N],x3.n⟩
   ·refine .inr ⟨?_,mo j q hj e1⟩;show qaz _ ((H'.obj j).slot H'.len j q);rw[hobj j hj e1];exact qb7 hb,
  fun j q h hb=>by
   obtain⟨e1,e2⟩:=fn j q h;by_cases hj:j=id
   ·subst hj;have hq:¬ PP <+: q:=fun e=>e2 ⟨rfl,e⟩;unfold qad.len;rw[hobji,ho];simp only[OD.len];rcases a2 q hq with⟨x1,x2⟩|⟨x,x',x1,x2,x3⟩
    ·rw[x1,x2]
    ·rw[x1,x2];simp only[x3.n]
   ·exact qad.qdn (hobj j hj e1) q⟩
 have fo:∀j,j≠id->j≠k->∀q,f j q=none:=fun j e1 e2 q=>qhq e2 (fun e=>absurd e e1)
 -- cells of the list that moves
 have cellM:∀(q:List Nat) (a:LV),w.at q=some a->∀r' c',r'<a.l.length->KG (toH s.heap) (toH H') m (fun _=>False) (qbd s.heap.len k q r' c' (qam a.N (a.row r') c')) (qbd H'.len id (PP++q) r' c' (qam a.N (a.row r') c')):=fun q a ha r' c' hr'=>by
  cases hx:qam a.N (a.row r') c' with
  |ev u=>exact KG.dat (qbf _ _ _ _ hx)
  |own t e l=>
   simp only[qbd];have e1:(toH s.heap).slot ⟨k,q++[c',r']⟩=.live (LV.obj s.heap.len k (q++[c',r']) ⟨t,e,l⟩):=by
    rw[hslk];exact qcs ha hx
   have e2:(toH H').slot ⟨id,PP++q++[c',r']⟩=.live (LV.obj H'.len id (PP++q++[c',r']) ⟨t,e,l⟩):=by
    rw[hsl'];exact qcs (by rw[atP];exact ha) hx
   refine KG.qbq (o:=LV.obj s.heap.len k (q++[c',r']) ⟨t,e,l⟩) e1 e2 ?_ rfl rfl rfl rfl (by show 0+l.length<=l.length;omega)
   have:=mp (q++[c',r']);rwa [<- zib]at this
 have idlive:(toH s.heap).slot ⟨id,[]⟩≠.qae:=by
  rw[hsl,qe2 (fun h=>by have:=h.length_le;simp at this) (LV.qa6 _)]
  intro e;cases e
 have klive:(toH s.heap).slot ⟨k,[]⟩≠.qae:=by rw[hslk];simp only[OD.slot,LV.qa6];intro e;cases e
 have kdead:∀q,(toH H').slot ⟨k,q⟩=.dead:=fun q=>by show(H'.obj k).slot _ _ _=_;rw[hobjk];rfl
 -- cells of the lists that stay
 have cellS:∀(q:List Nat) (a a':LV),root.at q=some a->root'.at q=some a'->¬ PP <+: q->∀r' c' (x x':Cell),¬ (q=p/\r'=r/\c'=c)->x=qam a.N (a.row r') c'->x'=qam a'.N (a'.row r') c'->x.Sim x' ->
   KG (toH s.heap) (toH H') m (fun _=>False) (qbd s.heap.len id q r' c' x) (qbd H'.len id q r' c' x'):=fun q a a' ha ha' hnq r' c' x x' hne hx hx' hsim=>by
  cases x with
  |ev u=>
   cases x' with
   |own t e l=>exact hsim.elim
   |ev u'=>
    have:u=u':=hsim;subst this;exact KG.dat (qbf _ _ _ _ hx.symm)
  |own t e l=>
   cases x' with
   |ev u=>exact hsim.elim
   |own t' e' l'=>
    obtain⟨rfl,rfl,hl⟩:=hsim;simp only[qbd];have np:¬ PP <+: q++[c',r']:=not_under hpe (LV.qgk _ _ _ ha) hnq hne;rw[hl];have ek:root.at (q++[c',r'])=some ⟨t,e,l⟩:=by rw[LV.qbv _ _ _ _ ha,LV.at_one,LV.qd8 hx.symm]
    have e1:(toH s.heap).slot ⟨id,q++[c',r']⟩=.live (LV.qj0 s.heap.len id (q++[c',r']) ⟨t,e,l⟩ p r c (.qa5 k [])):=by rw[hsl];exact qe2 np ek
    have e2:(toH H').slot ⟨id,q++[c',r']⟩=.live (LV.obj H'.len id (q++[c',r']) ⟨t,e,l'⟩):=by rw[hsl'];exact qcs ha' hx'.symm
    exact KG.qbq e1 e2 (mi _ np) rfl rfl rfl rfl (by show 0+l'.length<=l'.length;omega)
 have gen:Gen (toH s.heap) (toH H') m (fun _=>False):=by
  refine Gen.qa9 (fun j=>j=id\/j=k) hkk hf.obj (fun j hj=>?_) (fun i hi o' ho'=>?_) (fun i hi sb g' hm=>?_) (fun i j x hi h1' h2' e1 e2=>?_) rfl (fun i hi=>?_) (fun i hi hil hip=>?_)
  ·have e1:j≠id:=fun e=>hj (.inl e);have e2:j≠k:=fun e=>hj (.inr e);exact⟨fo j e1 e2,hobj j e1 e2,fun q=>mo j q e1 e2,fun q h=>h,fun q=>rfl⟩
  ·obtain⟨j,q⟩:=i;by_cases hj:j=id
   ·subst hj;rw[hsl']at ho';simp only[OD.slot]at ho';cases ha':root'.at q with
    |none=>rw[ha']at ho';cases ho'
    |some a'=>
     rw[ha']at ho';injection ho' with ho';subst ho';by_cases hq:PP <+: q
     ·obtain⟨q',rfl⟩:=hq;rw[atP]at ha';refine .inr ⟨⟨k,q'⟩,LV.obj s.heap.len k q' a',mp q',?_,fun h=>h,rfl,rfl,zg3 _,fun r' hr' c' _=>cellM q' a' ha' r' c' hr'⟩;rw[hslk];simp only[OD.slot,ha']
     ·rcases a2 q hq with⟨x1,x2⟩|⟨x,x',x1,x2,x3⟩
      ·rw[x1]at ha';cases ha'
      ·have ha2:=ha';rw[x2]at ha';injection ha' with ha';subst ha';refine .inr ⟨⟨j,q⟩,LV.qj0 s.heap.len j q x p r c (.qa5 k []),mi q hq,?_,fun h=>h,x3.e,?_,zij x3.n,fun r' hr' c' hc'=>?_⟩
       ·rw[hsl];exact qe2 hq x1
       ·show x'.N.sz=x.N.sz;rw[x3.N]
       ·simp only[LV.qj0,LV.obj];by_cases hx:q=p/\r'=r/\c'=c
        ·rw[if_pos hx];obtain⟨rfl,rfl,rfl⟩:=hx;rw[a1]at ha2;injection ha2 with ha2;subst ha2;have er:(v.setRow r' y).row r'=y:=by rw[LV.qbx hr,if_pos rfl]
         have ec:qam (v.setRow r' y).N ((v.setRow r' y).row r') c'=.own w.e w.N w.l:=by rw[er];exact hy1
         rw[ec];have l2:s.heap.len k []=some w.l.length:=by
          unfold qad.len;rw[hk];simp only[OD.len,LV.qa6]
         simp only[qbd,toV,l2];have e2:(toH H').slot ⟨j,PP⟩=.live (LV.obj H'.len j PP w):=by
          rw[hsl'];have:=atP [];rw[zht,LV.qa6]at this;simp only[OD.slot,this]
         have e1:(toH s.heap).slot ⟨k,[]⟩=.live (LV.obj s.heap.len k [] w):=by
          rw[hslk];simp only[OD.slot,LV.qa6]
         have em:m ⟨j,PP⟩=some ⟨k,[]⟩:=by
          have:=mp [];rwa [zht]at this
         exact KG.qbq e1 e2 em rfl rfl rfl rfl (by show 0+w.l.length<=w.l.length;omega)
        ·rw[if_neg hx];exact cellS q x x' x1 x2 hq r' c' _ _ hx rfl rfl (x3.c r' c' hx)
   ·have hj2:j=k:=hi.resolve_left hj;subst hj2;rw[kdead]at ho';cases ho'
  ·obtain⟨j,q⟩:=i;by_cases hj:j=id
   ·subst hj;rw[hsl']at hm;simp only[OD.slot]at hm;cases ha':root'.at q<;>rw[ha']at hm<;>cases hm
   ·have hj2:j=k:=hi.resolve_left hj;subst hj2;rw[kdead]at hm;cases hm
  ·obtain⟨j1,q1⟩:=i;obtain⟨j2,q2⟩:=j;have n1:j1≠k:=fun e=>by subst e;rw[kdead]at h1';exact h1'
   have n2:j2≠k:=fun e=>by subst e;rw[kdead]at h2';exact h2'
   have hj:j1=id:=hi.resolve_right n1;subst hj;have key:∀q y,m ⟨j1,q⟩=some y->(PP <+: q/\y=⟨k,q.drop PP.length⟩)\/(¬ PP <+: q/\y=⟨j1,q⟩):=fun q y e=>by
    by_cases hq:PP <+: q
    ·obtain⟨z,rfl⟩:=hq;rw[mp]at e;injection e with e;exact .inl ⟨⟨z,rfl⟩,by rw[<- e];simp⟩
    ·rw[mi q hq]at e;injection e with e;exact .inr ⟨hq,e.symm⟩
   by_cases hj2:j2=j1
   ·subst hj2;rcases key q1 x e1 with⟨p1,x1⟩|⟨p1,x1⟩<;>rcases key q2 x e2 with⟨p2,x2⟩|⟨p2,x2⟩
    ·rw[x1]at x2;injection x2 with _ x2;obtain⟨z1,rfl⟩:=p1;obtain⟨z2,rfl⟩:=p2;simp at x2;rw[x2]
    ·rw[x1]at x2;injection x2 with x2 _;exact absurd x2.symm hik
    ·rw[x1]at x2;injection x2 with x2 _;exact absurd x2 hik
    ·rw[<- x1,<- x2]
   ·rw[mo j2 q2 hj2 n2]at e2;injection e2 with e2;rcases key q1 x e1 with⟨p1,x1⟩|⟨p1,x1⟩
    ·rw[x1]at e2;injection e2 with e2 _;exact absurd e2 n2
    ·rw[x1]at e2;injection e2 with e2 _;exact absurd e2 hj2
  ·have hi:s.heap.next<=i.k:=hi;have e1:i.k≠id:=fun e=>idlive (by
    have:=hf.next ⟨id,[]⟩ (by rw[<- e];exact hi)
    exact this)
   have e2:i.k≠k:=fun e=>klive (by
    have:=hf.next ⟨k,[]⟩ (by rw[<- e];exact hi)
    exact this)
   show(H'.obj i.k).slot _ _ _=_;rw[hobj _ e1 e2];exact qcm.2 (hf.next i hi)
  ·obtain⟨j,q⟩:=i;simp only at hip hil;subst hip;by_cases hj:j=id
   ·subst hj;have fnone:f j []=none:=qhq hik (fun _=>by rw[hPP];simp)
    rcases hkk.slot j [] fnone idlive with h|⟨h,h'⟩
    ·exact .inr (.inl h)
    ·exact .inr (.inr ⟨h',h⟩)
   ·have hj2:j=k:=hi.resolve_left hj;subst hj2;exact .inr (.inl (kdead []))
 refine qgs.gen m (fun _=>False) rfl gen (fun t=>?_);exact qbm.keeps hkk _ (hf.env t)
end
end
end Go.Abs
namespace Go.Abs
noncomputable section
variable {P:Program} {d:Option Tmp} {ty:TypeId} {L:List GOp} {ρ:Type}
section
variable [SU] [qa2] {Q:Exit->ESt->Prop}
def q17(P:Program)[Tys P](s:ESt)(t n:Nat)(A:Array (Nat×Operand))(K:OD->Option ρ):Option ρ:=match(Tys.c P t).sl with
 |some (e,sz,_)=>match(Tys.c P e).zero,A.toList with
  | some z,[(0,x)]=>bif Nat.beq n 1&&(Nat.beq z.cells.size sz&&(Nat.blt 0 sz&&(Nat.ble sz 16777216&&qjy [x])))then(match s.eval x with
   |.agg l=>bif Nat.beq l.length sz then K (.cells e l)else none
   | _=>none)else none
  |_,_=>none
 |none=>none
theorem q16[T:Tys P]{s:ESt}{t n:Nat}{A:Array (Nat×Operand)}{K:ESt->Option ρ}{res:ρ}(hK:∀s',K s'=some res->SLT P L Q s')
  (h:q17 P s t n A (qvd s d (fun id=>.qbq id [] 0 1) K)=some res):SLT P (⟨d,.buildSlice t n A,ty,none⟩::L) Q s:=by
 refine⟨SL.fair fun hf=>?_⟩;unfold q17 at h;split at h
 ·rename_i e sz by_ hsl;have ht:=(T.ok t).sl _ _ _ hsl;split at h
  ·rename_i z x hz hA;have hzz:=(T.ok e).zero _ hz;obtain⟨hb,g⟩:=qaf h;clear h;simp only[zgz]at hb;obtain⟨b1,b2,b3,b4,b5⟩:=hb;obtain rfl:=zg2 b1;generalize hx:s.eval x=E at g;cases E with
   |agg l=>
    obtain⟨b6,h⟩:=qaf g;clear g;obtain rfl:=zg2 b6;rw[qfm]at h;have hA':A=partsOf [x]:=by
     cases A;simp only at hA;rw[hA];rfl
    have hev:=(qkg b5).2 s;have hb:=qm4 hf x;rw[hx]at hev hb;simp only[toV]at hev hb;have hlen:∀id p,(toH s.heap).slot ⟨id,p⟩≠.qae->(s.heap.add s.heap.next (.cells e l)).len id p=s.heap.len id p:=fun id p hb=>by
     have:id≠s.heap.next:=fun e=>hb (hf.next ⟨id,p⟩ (by rw[e];exact zg3 _))
     exact qad.qg7 (qad.qsw this) p
    suffices h':SL P (⟨d,.buildSlice t [x].length (partsOf [x]),ty,none⟩::L) (qe9 Q) (qbc s)by rw[hA'];exact h'
    refine SL.q65 (P:=P) (t:=t) (by_:=by_) (e:=e) (z:=z) (us:=[.agg l.length (qa3 s.heap.len l)]) (qbl b2) (by simp only[zhg,zik,hev]) (fun u hu=>?_) (zg4 b3) (by simpa using zg4 b4)
     (SL.weak (qeg (a:={ elem:=e,sz:=l.length,ver:=0,n:=[x].length,get:=fun i j=>(([V.agg l.length (qa3 s.heap.len l)]:List V).getD i .un).row j }) (o:=.cells e l) (u:=.qbq s.heap.next [] 0 1) hf rfl rfl rfl rfl rfl rfl (fun i hi j hj=>?_) d (fun _=>?_)) (hK _ h).out)
    ·rw[zh7.1 hu];exact zhc _
    ·have hi:i<1:=hi;obtain rfl:i=0:=by omega
     show Wk (qa3 s.heap.len l j) (qa3 _ l j);rw[qf9 hlen l hb];exact Wk.refl _
    ·simp only[toV];exact Wk.refl _
   |_=>cases g
  ·cases h
 ·cases h
theorem qvb:∀(pre:List EV) (u:EV) (l:List EV),qdb (pre++u::l) pre.length=u
 |[],_,_=>rfl
 |_::pre,u,l=>qvb pre u l
def qtx(s:ESt)(N:Ty):List EV->Nat->N.D->List Nat->(N.D->List Nat->Option ρ)->Option ρ
 |[],_,y,ks,K=>K y ks
 |u::l,c,y,ks,K=>match u with
  | .qa5 kk []=>(match s.heap.obj kk with
   | .lst w=>bif qnu kk ks then none else(match qtj N y c w.e w.N w.l with
    |some y'=>qtx s N l (c+1) y' (kk::ks) K
    | none=>none)
   | _=>none)
  | u=>(match qww N y c u with
   |some y'=>qtx s N l (c+1) y' ks K
   | none=>none)
structure qnz(s:ESt)(N:Ty)(al:List EV)(c:Nat)(y:N.D)(ks:List Nat):Prop where
 done:∀c',c'<c->(∃u,qam N y c'=.ev u/\∀len,Wk (qa3 s.heap.len al c') (toV len u))\/∃kk w,qdb al c'=.qa5 kk []/\kk∈ks/\s.heap.obj kk=.lst w/\qam N y c'=.own w.e w.N w.l
 rest:∀c',c<=c'->qam N y c'=qam N N.z c'
 all:∀c' kk,c'<c->qdb al c'=.qa5 kk []->kk∈ks
 inj:∀c1 c2 kk,c1<c->c2<c->qdb al c1=.qa5 kk []->qdb al c2=.qa5 kk []->c1=c2
 live:∀kk∈ks,∃w,s.heap.obj kk=.lst w
theorem qm1{s:ESt}{N:Ty}{al:List EV}{K:N.D->List Nat->Option ρ}{res:ρ}:∀(l pre:List EV) (c:Nat) (y:N.D) (ks:List Nat),al=pre++l->pre.length=c->qnz s N al c y ks->qtx s N l c y ks K=some res ->
  ∃y' ks',qnz s N al al.length y' ks'/\K y' ks'=some res
 | [],pre,c,y,ks,ha,hc,hi,h=>⟨y,ks,by
   have:al.length=c:=by rw[ha,zht,hc]
   rw[this];exact hi,h⟩
 |u::l,pre,c,y,ks,ha,hc,hi,h=>by
  have hu:qdb al c=u:=by rw[ha,<- hc];exact qvb pre u l
  have next:∀y' ks',qnz s N al (c+1) y' ks'->qtx s N l (c+1) y' ks' K=some res->∃y' ks',qnz s N al al.length y' ks'/\K y' ks'=some res:=fun y' ks' h1 h2=>
   qm1 l (pre++[u]) (c+1) y' ks' (by rw[ha];simp) (by simp[hc]) h1 h2
  unfold qtx at h;split at h
  ·rename_i kk;split at h
   ·rename_i w hw;cases hm:qnu kk ks with
    |true=>rw[hm]at h;cases h
    |false=>
     rw[hm]at h;simp only[cond_false]at h;have hnk:kk∉ks:=fun e=>by rw[qem.2 e]at hm;cases hm
     split at h
     ·rename_i y' hy';obtain⟨o1,o2⟩:=qpt _ _ _ _ _ _ _ hy';refine next y' (kk::ks) ⟨fun c' hc'=>?_,fun c' hc'=>?_,fun c' k' hc' e=>?_,fun c1 c2 k' h1 h2 e1 e2=>?_,fun k' hk'=>?_⟩ h
      ·by_cases e:c'=c
       ·subst e;exact .inr ⟨kk,w,hu,zg5 ..,hw,o1⟩
       ·rcases hi.done c' (by omega)with⟨u',a1,a2⟩|⟨k',w',a1,a2,a3,a4⟩
        ·exact .inl ⟨u',by rw[o2 c' e];exact a1,a2⟩
        ·exact .inr ⟨k',w',a1,zg8 _ a2,a3,by rw[o2 c' e];exact a4⟩
      ·rw[o2 c' (by omega)];exact hi.rest c' (by omega)
      ·by_cases e':c'=c
       ·subst e';rw[hu]at e;injection e with e;subst e;exact zg5 ..
       ·exact zg8 _ (hi.all c' k' (by omega) e)
      ·by_cases q1:c1=c<;>by_cases q2:c2=c
       ·omega
       ·subst q1;rw[hu]at e1;injection e1 with e1;subst e1;exact absurd (hi.all c2 kk (by omega) e2) hnk
       ·subst q2;rw[hu]at e2;injection e2 with e2;subst e2;exact absurd (hi.all c1 kk (by omega) e1) hnk
       ·exact hi.inj c1 c2 k' (by omega) (by omega) e1 e2
      ·rcases zhr.1 hk' with e|e
       ·subst e;exact⟨w,hw⟩
       ·exact hi.live k' e
     ·cases h
   ·cases h
  ·rename_i hns;split at h
   ·rename_i y' hy';obtain⟨_,⟨u',o1,o3⟩,o2⟩:=qlw _ _ _ _ _ hy';refine next y' ks ⟨fun c' hc'=>?_,fun c' hc'=>?_,fun c' k' hc' e=>?_,fun c1 c2 k' h1 h2 e1 e2=>?_,hi.live⟩ h
    ·by_cases e:c'=c
     ·subst e;refine .inl ⟨u',o1,fun len=>?_⟩;rw[<- qey,hu,EV.qm9 (qbf _ _ _ _ o1) len s.heap.len];exact o3 _
     ·rcases hi.done c' (by omega)with⟨u',a1,a2⟩|⟨k',w',a1,a2,a3,a4⟩
      ·exact .inl ⟨u',by rw[o2 c' e];exact a1,a2⟩
      ·exact .inr ⟨k',w',a1,a2,a3,by rw[o2 c' e];exact a4⟩
    ·rw[o2 c' (by omega)];exact hi.rest c' (by omega)
    ·by_cases e':c'=c
     ·subst e';rw[hu]at e;exact absurd e (hns k')
     ·exact hi.all c' k' (by omega) e
    ·by_cases q1:c1=c
     ·subst q1;rw[hu]at e1;exact absurd e1 (hns k')
     ·by_cases q2:c2=c
      ·subst q2;rw[hu]at e2;exact absurd e2 (hns k')
      ·exact hi.inj c1 c2 k' (by omega) (by omega) e1 e2
   ·cases h
theorem qnz.start{s:ESt}{N:Ty}{al:List EV}:qnz s N al 0 N.z []:=⟨fun _ h=>absurd h (zhf _),fun _ _=>rfl,fun _ _ h=>absurd h (zhf _),fun _ _ _ h=>absurd h (zhf _),fun _ h=>by cases h⟩
theorem qnz.row{s:ESt}{N:Ty}{al:List EV}{y:N.D}{ks:List Nat}(h:qnz s N al al.length y ks)(hal:al.length=N.sz):q67 s N al y ks where
 cell c:=by
  by_cases hc:c<al.length
  ·rcases h.done c hc with⟨u,a1,a2⟩|⟨kk,w,a1,a2,a3,a4⟩
   ·exact .inl ⟨u,a1,fun _=>a2⟩
   ·exact .inr (.inl ⟨kk,w,a1,a2,a3,a4⟩)
  ·have e:=h.rest c (by omega);cases hx:qam N y c with
   |ev u=>exact .inl ⟨u,rfl,fun hlt=>by omega⟩
   |own t e' l=>
    rw[e]at hx;have:=qn0 _ _ _ _ _ hx;subst this;exact .inr (.inr ⟨by omega,t,e',rfl⟩)
 inj c c' kk h1 h2 _:=by
  by_cases hc:c<al.length
  ·by_cases hc':c'<al.length
   ·exact h.inj c c' kk hc hc' h1 h2
   ·rw[qix (by omega)]at h2;cases h2
  ·rw[qix (by omega)]at h1;cases h1
 live:=h.live
def q9v(P:Program)[Tys P][TyE P](s:ESt)(d:Option Tmp)(t:Nat)(x y:Operand)(K:ESt->Option ρ)(no:Option ρ):Option ρ:=match s.eval y with
 | .qbq id2 [] 0 1=>(match s.heap.obj id2 with
  | .cells e2 al=>(match(Tys.c P t).sl with
   | some (e,sz,by_)=>(match(Tys.c P e).zero with
    | some z=>bif Nat.beq z.cells.size sz&&(Nat.beq al.length sz&&Nat.beq e2 e)then(match s.eval x with
     | .qby=>(match TyE.o P e with
      |some N=>bif Nat.beq N.sz sz then qtx s N al 0 N.z [] fun y ks=>grd (okB (1*by_<=140737488355328/\1<=281474976710656)) (bif Nat.ble s.heap.lo s.heap.next&&!qnu s.heap.next ks then qw6 s.heap.next fun k=>K ((s.qxs (k::ks) k (k+1) ⟨e,N,[]++[y]⟩).put d (.qa5 k []))else none)else none
      | none=>none)
     | .qa5 id []=>(match s.heap.obj id with
      |.lst v=>bif Nat.beq v.N.sz sz&&Nat.beq v.e e then qtx s v.N al 0 v.N.z [] fun y ks=>grd (okB ((v.l.length+1)*by_<=140737488355328/\v.l.length+1<=281474976710656))
        (bif qnu id ks then none else bif Nat.ble s.heap.lo id then K ((s.qxs (id::ks) id s.heap.next ⟨v.e,v.N,v.l++[y]⟩).put d (.qa5 id []))
         else bif Nat.ble s.heap.lo s.heap.next&&!qnu s.heap.next ks then qw6 s.heap.next fun k2=>K ((s.qxs (id::ks) k2 (k2+1) ⟨v.e,v.N,v.l++[y]⟩).put d (.qa5 k2 []))else none)else none
      | _=>none)
     | _=>none)else none
    | none=>none)
   | none=>none)
  | _=>no)
 |_=>no
theorem q5n[T:Tys P][TE:TyE P]{s:ESt}{t:Nat}{x y:Operand}{K:ESt->Option ρ}{no:Option ρ}{res:ρ}(hK:∀s',K s'=some res->SLT P L Q s')
  (hno:no=some res->SLT P (⟨d,.call { callee:=.builtin .append,args:=#[x,y],argTypes:=#[t,t] },ty,none⟩::L) Q s)
  (h:q9v P s d t x y K no=some res):SLT P (⟨d,.call { callee:=.builtin .append,args:=#[x,y],argTypes:=#[t,t] },ty,none⟩::L) Q s:=by
 unfold q9v at h;split at h
 ·rename_i id2 hy;split at h
  ·rename_i e2 al ho2;refine⟨SL.fair fun hf=>?_⟩;split at h
   ·rename_i e sz by_ hsl;have ht:=(T.ok t).sl _ _ _ hsl;split at h
    ·rename_i z hz;have hzz:=(T.ok e).zero _ hz;obtain⟨hb,h⟩:=qaf h;simp only[zgz]at hb;obtain⟨b1,b2,b3⟩:=hb;have b1:=qbl b1;have b2:=qbl b2;have b3:=qbl b3;subst b3;have hy:=eval_eq hy rfl;simp only[toV]at hy;have hs2:=qc9 ho2;have src:Src (qbc s) y 1 sz (fun i j=>qa3 s.heap.len al j):=Src.qbq hy hs2 rfl b2;have hunb:∀p,(toH s.heap).slot ⟨s.heap.next,p⟩=.qae:=fun p=>hf.next ⟨s.heap.next,p⟩ (zg3 _);split at h
     ·rename_i hx;have hx:=eval_eq hx rfl;simp only[toV]at hx;split at h
      ·rename_i N hτ;obtain⟨b4,h⟩:=qaf h;have b4:=qbl b4;obtain⟨y',ks,hfi,h⟩:=qm1 (al:=al) al [] 0 N.z [] rfl rfl qnz.start h;have hrow:=hfi.row (by rw[b2,b4]);obtain⟨hp,h⟩:=qbs h;obtain⟨p1,p2⟩:=qc5 hp;obtain⟨hl,h⟩:=qaf h;simp only[zgz,zhn]at hl;obtain⟨hlo,hnm⟩:=hl;have hlo:=zg4 hlo;have hnk:s.heap.next∉ks:=fun e=>by rw[qem.2 e]at hnm;cases hnm
       rw[qfo]at h;refine SL.q2f (P:=P) (t:=t) (by_:=by_) (e:=e2) (z:=z) (o:={ elem:=e2,sz:=sz,ver:=0,n:=0,get:=fun _ _=>.un }) rfl rfl rfl rfl hx b1 src (by omega) p2 (SL.weak ?_ (hK _ h).out);refine qqx (k:=s.heap.next) (k2:=s.heap.next) (nx:=s.heap.next+1) (v1:=⟨e2,N,[]⟩) (y:=y') (al:=al) (ks:=ks) (a1:=qcu.app { elem:=e2,sz:=sz,ver:=0,n:=0,get:=fun _ _=>.un } 1 (fun i j=>qa3 s.heap.len al j)) hf hrow (by rw[b2,b4]) (fun i=>?_) rfl rfl b4 (by simp[qcu.app]) (fun r hr=>absurd hr (zhf _)) (fun c hc=>?_) (fun c r q hr=>absurd hr (zhf _)) (.inl rfl) (by omega) (by omega) (by omega) hlo hnk hnk d (fun _=>Wk.refl _)
       ·show(bif Id.beq i ⟨s.heap.next,[]⟩then _ else(bif Id.beq i ⟨s.heap.next,[]⟩then _ else _))=_;rw[qef,qef]
        split<;>rfl
       ·show Wk (bif Nat.blt 0 0 then V.un else qa3 s.heap.len al c) _;exact Wk.refl _
      ·cases h
     ·rename_i id hx;split at h
      ·rename_i v ho;obtain⟨ve,vτ,vl⟩:=v;obtain⟨b4,g⟩:=qaf h;clear h;simp only[zgz]at b4;obtain⟨b4,b5⟩:=b4;have b4:=qbl b4;have b5:=qbl b5;subst b5;obtain⟨y',ks,hfi,h⟩:=qm1 (al:=al) al [] 0 vτ.z [] rfl rfl qnz.start g;clear g;have hrow:=hfi.row (by rw[b2,b4]);obtain⟨hp,h⟩:=qbs h;obtain⟨p1,p2⟩:=qc5 hp;have hat:s.heap.at id []=some ⟨ve,vτ,vl⟩:=by simp only[qad.at,ho,LV.qa6]
       have hx:=eval_eq hx rfl;simp only[toV,qad.qf1 hat]at hx;have hs:=qb3 hat;have hlive:id<s.heap.next:=Classical.byContradiction fun hn=>by
        have:=hf.next ⟨id,[]⟩ (zhz hn);rw[hs]at this;cases this
       cases hmk:qnu id ks with
       |true=>rw[hmk]at h;cases h
       |false=>
        rw[hmk]at h;simp only[cond_false]at h;have hik:id∉ks:=fun e=>by rw[qem.2 e]at hmk;cases hmk
        refine SL.append (P:=P) (t:=t) (by_:=by_) (z:=z) hx hs rfl rfl b4 rfl b1 src p1 p2 ?_;have main:∀k2 nx,(k2=id\/∀p,(toH s.heap).slot ⟨k2,p⟩=.qae)->s.heap.next<=nx->k2<nx->s.heap.lo<=k2->k2∉ks->K ((s.qxs (id::ks) k2 nx ⟨ve,vτ,vl++[y']⟩).put d (.qa5 k2 []))=some res->SL P L (qe9 Q) (((qbc s).on ((qbc s).heap.set ⟨id,[]⟩ (qcu.app (LV.obj s.heap.len id [] ⟨ve,vτ,vl⟩) 1 (fun i j=>qa3 s.heap.len al j)))).put d (.qbq ⟨id,[]⟩ (0+1) 0 (vl.length+1))):=fun k2 nx q1 q2 q3 q4 q6 q5=>by
         refine SL.weak (qqx (k:=id) (k2:=k2) (nx:=nx) (v1:=⟨ve,vτ,vl⟩) (y:=y') (al:=al) (ks:=ks) (a1:=qcu.app (LV.obj s.heap.len id [] ⟨ve,vτ,vl⟩) 1 (fun i j=>qa3 s.heap.len al j)) hf hrow (by rw[b2,b4]) (fun i=>?_) rfl rfl rfl rfl (fun r hr c hc=>?_) (fun c hc=>?_) (fun c r q hr=>?_) q1 q2 (by omega) q3 q4 hik q6 d (fun _=>Wk.refl _)) (hK _ q5).out
         ·show(bif Id.beq i ⟨id,[]⟩then _ else _)=_;exact qef _ _ _ _
         ·show Wk (bif Nat.blt r vl.length then qbd s.heap.len id [] r c (qam vτ (LV.row ⟨ve,vτ,vl⟩ r) c)else _) _;have hr:r<vl.length:=hr;rw[qdc hr];exact Wk.refl _
         ·show Wk (bif Nat.blt vl.length vl.length then _ else qa3 s.heap.len al c) _;rw[qdv (zg3 _)];exact Wk.refl _
         ·show(s.heap.obj id).slot _ _ _=_;rw[ho]
        cases hlo:Nat.ble s.heap.lo id with
        |true=>
         rw[hlo]at h;exact main id s.heap.next (.inl rfl) (zg3 _) hlive (zg4 hlo) hik h
        |false=>
         rw[hlo]at h;simp only[cond_false]at h;obtain⟨hl,h⟩:=qaf h;simp only[zgz,zhn]at hl;obtain⟨hlo2,hnm⟩:=hl;have hnk:s.heap.next∉ks:=fun e=>by rw[qem.2 e]at hnm;cases hnm
         rw[qfo]at h;exact main s.heap.next (s.heap.next+1) (.inr (fun p=>hf.next ⟨s.heap.next,p⟩ (zg3 _))) (by omega) (by omega) (zg4 hlo2) hnk h
      ·cases h
     ·cases h
    ·cases h
   ·cases h
  ·exact hno h
 ·exact hno h
def q0e(s:ESt):List Operand->Option (Tmp×Nat×List Nat)
 |[]=>none
 | .tmp t::l=>(match s.env t with
  |.qa5 id (c::p)=>some (t,id,c::p)
  | _=>q0e s l)
 |_::l=>q0e s l
theorem qg6{s:ESt}:∀ {l:List Operand} {t:Tmp} {id:Nat} {q:List Nat},q0e s l=some (t,id,q)->s.env t=.qa5 id q
 |[],_,_,_,h=>by cases h
 |x::l,t,id,q,h=>by
  cases x with
  |tmp t'=>
   unfold q0e at h;split at h
   ·rename_i hx;injection h with h;injection h with h1 h;injection h with h2 h3;subst h1;subst h2;subst h3;exact hx
   ·exact qg6 (l:=l) h
  |const v=>exact qg6 (l:=l) h
  |global g=>exact qg6 (l:=l) h
  |func f=>exact qg6 (l:=l) h
def q8z(id k:Nat)(K:ESt->Option ρ)(s:ESt):Option ρ:=match s.heap.obj id with
 | .hole root p r c u=>(match u with
  | .qa5 k' []=>bif Nat.beq k' k&&!Nat.beq id k then(match s.heap.obj k with
   | .lst w=>root.qpd p fun v back=>grd (Nat.blt r v.l.length) (bif Nat.blt c v.N.sz then(match qtj v.N (v.l.getD r v.N.z) c w.e w.N w.l with
    | some y=>(match back ⟨v.e,v.N,v.l.set r y⟩with
     |some root'=>shO root'.l fun l=>K (s.att id k (p++[c,r]) ⟨root'.e,root'.N,l⟩)
     | none=>none)
    | none=>none)else none)
   | _=>none)else none
  | _=>none)
 |_=>none
theorem q03{s:ESt}{id k:Nat}{K:ESt->Option ρ}{res:ρ}(h:q8z id k K s=some res):∃s',qb1 s s'/\K s'=some res:=by
 unfold q8z at h;split at h
 ·rename_i root p r c u ho;split at h
  ·rename_i k';obtain⟨hb,h⟩:=qaf h;simp only[zgz,zhn]at hb;obtain rfl:=qbl hb.1;have hne:id≠k':=fun e=>by subst e;rw[zhc]at hb;exact absurd hb.2 (by simp)
   split at h
   ·rename_i w hw;obtain⟨v,back,hv,hback,g⟩:=LV.qgw _ _ _ _ h;clear h;obtain⟨hr,h⟩:=qbs g;clear g;have hr:r<v.l.length:=zg4 hr;obtain⟨hc,h⟩:=qaf h;have hc:c<v.N.sz:=zg4 hc;split at h
    ·rename_i y hy;split at h
     ·rename_i root' hp;have hp:=hback _ _ hp;rw[qls]at h;obtain⟨y1,y2⟩:=qpt _ _ _ _ _ _ _ hy;exact⟨_,qb1.qyb hne ho hw hv hr hc y1 y2 hp,h⟩
     ·cases h
    ·cases h
   ·cases h
  ·cases h
 ·cases h
def q0n(s:ESt)(args:List Operand)(F:ESt->(ESt->Option ρ)->Option ρ)(K:ESt->Option ρ):Option ρ:=match q0e s args with
 | some (tx,id,q)=>(match q4w q with
  | some (p,c,r)=>(match s.heap.obj id with
   | .lst root=>root.qpd p fun v _=>grd (Nat.blt r v.l.length) (bif Nat.blt c v.N.sz then(match qrq v.N c with
    |some (t,e)=>qak (qrr v.N (v.l.getD r v.N.z) c e) fun l=>qw6 s.heap.next fun k=>F (s.q2p id k (p.length+2) root p r c ⟨t,e,l⟩ tx) (q8z id k K)
    | none=>none)else none)
   | _=>none)
  | none=>none)
 |none=>F s K
theorem qw9{s:ESt}{args:List Operand}{F:ESt->(ESt->Option ρ)->Option ρ}{K:ESt->Option ρ}{res:ρ}(h:q0n s args F K=some res) :
  ∃s1 K1,qb1 s s1/\F s1 K1=some res/\∀s',K1 s'=some res->∃s'',qb1 s' s''/\K s''=some res:=by
 unfold q0n at h;split at h
 ·rename_i tx id q hn;have htx:=qg6 hn;split at h
  ·rename_i p c r hl;have hl:=qvv _ _ _ _ hl;split at h
   ·rename_i root ho;obtain⟨v,back,hv,hback,g⟩:=LV.qgw _ _ _ _ h;clear h;obtain⟨hr,h⟩:=qbs g;clear g;have hr:r<v.l.length:=zg4 hr;obtain⟨hc,h⟩:=qaf h;have hc:c<v.N.sz:=zg4 hc;split at h
    ·rename_i t e hte;have hh:=qb9 h;clear h;obtain⟨l,hl2,h⟩:=hh;rw[qfo]at h;refine⟨_,_,qgs.fair fun hf=>?_,h,fun s' h'=>q03 h'⟩;have hlive:id<s.heap.next:=Classical.byContradiction fun hn=>by
      have:=hf.next ⟨id,[]⟩ (zhz hn);have e:(toH s.heap).slot ⟨id,[]⟩=(OD.lst root).slot s.heap.len id []:=by show(s.heap.obj id).slot _ _ _=_;rw[ho]
      rw[e]at this;simp only[OD.slot,LV.qa6]at this;cases this
     exact qb1.q2p (w:=⟨t,e,l⟩) hlive ho hv hr hc (qk4 _ _ _ _ _ _ hte hl2) (by rw[htx,hl])
    ·cases h
   ·cases h
  ·cases h
 ·exact⟨s,K,qb1.refl s,h,fun s' h'=>⟨s',qb1.refl s',h'⟩⟩
end
end
end Go.Abs
namespace Go.Abs
open Go
noncomputable section
variable {P:Program} {d:Option Tmp} {ty:TypeId} {L:List GOp} {ρ:Type}
section
variable [SU] [qa2] [qxv] [FFs] {Q:Exit->ESt->Prop}
def ESt.sub(s:ESt)(g:EV->EV)(H:qad):ESt:=⟨s.nt,fun t=>g (s.env t),H⟩
structure Fit(c:Ctr P) where
 ks:List (Option Nat)
 x:DT c.ar
 y:DO c.os
def qtw(c:Ctr P)(s:ESt)(us:List EV):Option (Fit c):=
 let ks:=zdk (qub s.heap c.os 0 (q5g (qdb us) c.ar [])) c.os 0
 bif qqu ks&&(qxy s.heap.next ks&&(q32 0 c.ar&&(qha c.os c.ro&&Nat.beq c.ar.length us.length)))then(match exT ks (qdb us) c.ar with
  |some x=>match qow ks s.heap c.os ks with
   |some y=>some ⟨ks,x,y⟩
   |none=>none
  | none=>none)else none
theorem qld{c:Ctr P}{s:ESt}{us:List EV}{z:Fit c}(h:qtw c s us=some z):qqu z.ks=true/\qxy s.heap.next z.ks=true/\q32 0 c.ar=true/\qha c.os c.ro=true/\c.ar.length=us.length/\exT z.ks (qdb us) c.ar=some z.x/\qow z.ks s.heap c.os z.ks=some z.y:=by
 unfold qtw at h;have hh:=qaf h;clear h;obtain⟨hb,h⟩:=hh;simp only[zgz]at hb;split at h
 ·rename_i x hx;split at h
  ·rename_i y hy;injection h with h;subst h;exact⟨hb.1,hb.2.1,hb.2.2.1,hb.2.2.2.1,zg2 hb.2.2.2.2,hx,hy⟩
  ·cases h
 ·cases h
def qql(c:Ctr P)(s:ESt)(z:Fit c)(d:Option Tmp)(K:ESt->Option ρ):Option ρ:=
 qak (c.F z.x z.y) fun res=>grd (qnx s.heap (mkH c.os.length c.ro res.2) z.ks 0) (K ((s.sub (qa9 (qfn z.ks)) (qgj s.heap z.ks (mkH c.os.length c.ro res.2))).put d (qgq (qu6 z.ks s.heap.next) (mkE c.rv res.1))))
def Ctr.quiet(c:Ctr P):Bool:=isNil c.os&&isNil c.ro
theorem qay.qu9{H:qbe}{M ι3:Id->Option Nat}{F:Nat->Prop}{w:World}{u:V}{v:Value}(h:qay qbe.none ι3 F w u v):qay H M F w u v:=
 Ext.of (H:=qbe.none) (M:=ι3) (fun _ h=>h) (fun _ _=>rfl) (fun id=>by unfold qf5 qbe.none;trivial) u v h
structure qgo(P:Program)(g:GOp)(f:FuncId)(us:List EV)(s:ESt):Prop where
 out:∀E M F a w,Rel E M F (qbc s) a w->∃cargs,(execOp a.eval g.oper).run P w=.ok (.enter f cargs) w/\us.length=cargs.size/\∀j,j<cargs.size->qay (toH s.heap) M F w (toV s.heap.len (qdb us j)) (cargs.getD j undef)
theorem qjt{c:Ctr P}{s:ESt}{us:List EV}{z:Fit c}{g:GOp}(hq:c.quiet=true)(ha:qgo P g c.f us s)
  (hz:qtw c s us=some z) {res:c.rv.D×DO c.ro} (hF:c.F z.x z.y=some res):QO P g (toV s.heap.len (mkE c.rv res.1)) (qbc s):=fun E M F a w r=>by
 obtain⟨cargs,h1,h2,h3⟩:=ha.out E M F a w r;obtain⟨z1,z2,z3,z4,z5,z6,z7⟩:=qld hz;obtain⟨ks,x,y⟩:=z;obtain⟨f,q96,ar,os,rv,ro,cF,ok⟩:=c;simp only[Ctr.quiet,zgz]at hq;simp only at x y hF z1 z2 z3 z4 z5 z6 z7 res ok h1 h2 ha ⊢;obtain rfl:=qf2 hq.1;obtain rfl:=qf2 hq.2;simp only[Oper.wp,h1,Oper.upon];have pt:Part (toH s.heap) (toH (mkH 0 [] y)) (mK ks):=qjw z7 z1;have hR:qik ks s.heap (mkH 0 [] y) (mK ks):=qgd z7;have r2:=pt.rel r.h;have hargs:∀j,j<(qc2 ar x).length->qay (toH (mkH 0 [] y)) (mι (mK ks) M) F w (toV (mkH 0 [] y).len (qdb (qc2 ar x) j)) (cargs.getD j undef):=fun j hj=>by
  rw[qc0]at hj;rw[qir z3 j,zg9];have:=qov (Z:=fun _=>False) hR ar x z6 j _ _ _ _ _ r.h (h3 j (by omega));rw[qkb]at this;exact this
 refine((ok x y res hF).out _ _ _ _ cargs r2 (by rw[qc0];omega) hargs).mono fun e w' ⟨v,ι3,F3,Hx,cv,k1,r3,hv,k4,k5⟩=>?_
 subst k1;subst k4;subst k5;refine⟨cv,F3,rfl,⟨r3.os,r3.tape,r3.output,r3.size,fun b hb=>r3.kept b hb ?_,fun b hb=>?_,fun b hb=>?_,r3.qno⟩,?_⟩
 ·rintro⟨id,h,_⟩;exact h
 ·have:=r3.ext (.fp 0 (fun _=>.any)) (.pointer (some ⟨b,0,none⟩)) ⟨b,0,rfl,hb,fun j hj=>absurd hj (zhf _)⟩;obtain⟨b',o',e1,e2,_⟩:=this;injection e1 with e1;injection e1 with e1;injection e1 with e1;subst e1;exact e2
 ·rcases r3.qxc b hb with h|⟨id,h,_⟩|h
  ·exact .inl h
  ·exact h.elim
  ·exact .inr h
 ·have hb:qfq qbe.none (toV (mkH 0 [] res.2).len (mkE rv res.1)):=hv.born;rw[qgy (H:=qbe.none) (len':=s.heap.len) (fun id p h=>absurd rfl h) _ hb];exact qay.qu9 hv
def qt5(s:ESt)(f:FuncId)(us:List EV)(d:Option Tmp)(K:ESt->Option ρ):List (Ctr P)->Option ρ
 |[]=>none
 | c::T=>bif Nat.beq c.f f then(match qtw c s us with
  |some z=>bif c.quiet then qak (c.F z.x z.y) (fun res=>K (s.put d (mkE c.rv res.1)))else qql c s z d K
  | none=>qt5 s f us d K T)else qt5 s f us d K T
theorem Rel.sub{E:Env}{M ι':Id->Option Nat}{F F':Nat->Prop}{s:ESt}{a:Act}{w w':World}(r:Rel E M F (qbc s) a w){H':qad}{g:EV->EV}(hH:qc4 E ι' F' (toH H') w')
  (he:∀u v,qfq (toH s.heap) (toV s.heap.len u)->qay (toH s.heap) M F w (toV s.heap.len u) v->qay (toH H') ι' F' w' (toV H'.len (g u)) v) (d:Option Tmp) {u:EV} {v:Value} (hv:qay (toH H') ι' F' w' (toV H'.len u) v) :
  Rel E ι' F' (qbc ((s.sub g H').put d u)) (a.put d v) w':=by
 have r1:Rel E ι' F' (qbc (s.sub g H')) a w':=⟨hH,fun t=>he _ _ (r.env t).born (r.env t),r.nt,r.defers⟩
 have:=r1.qgf d hv;rw[qaw];exact this
theorem qxm{c:Ctr P}{s:ESt}{us:List EV}{z:Fit c}{g:GOp}{K:ESt->Option ρ}{res:ρ}(hg:g.g=none)(ha:qgo P g c.f us s)(hz:qtw c s us=some z)(hK:∀s',K s'=some res->SLT P L Q s')
  (h:qql c s z g.dst K=some res):SLT P (g::L) Q s:=by
 obtain⟨y,hF,h⟩:=qb9 h;have hh:=qbs h;clear h;obtain⟨hlen,h⟩:=hh;obtain⟨z1,z2,z3,z4,z5,z6,z7⟩:=qld hz;have hk:=(hK _ h).out;refine⟨⟨fun E M F a w r=>?_⟩⟩;obtain⟨cargs,h1,h2,h3⟩:=ha.out E M F a w r;have hw:g.wanted a.tmps=true:=by unfold GOp.wanted;rw[hg]
 simp only[lwp,hw,if_true,Oper.wp,h1,Oper.upon];refine(qwe r.h r.fair c z1 z2 z3 z4 z6 z7 hF hlen (by omega) h3).mono fun e w' ⟨cv,ι',F',k1,k2,k3,k4,_⟩=>?_;subst k1;exact hk.out E ι' F' _ _ (r.sub k2 k3 g.dst k4)
theorem qjc{s:ESt}{f:FuncId}{us:List EV}{g:GOp}{K:ESt->Option ρ}{res:ρ}(hg:g.g=none)(ha:qgo P g f us s)(hK:∀s',K s'=some res->SLT P L Q s'):∀ {T:List (Ctr P)},
  qt5 s f us g.dst K T=some res->SLT P (g::L) Q s
 |[],h=>by cases h
 |c::T,h=>by
  unfold qt5 at h;cases hb:Nat.beq c.f f with
  |false=>rw[hb]at h;exact qjc hg ha hK (T:=T) h
  |true=>
   rw[hb]at h;obtain rfl:=zg2 hb;simp only[cond_true]at h;split at h
   ·rename_i z hz;cases hq:c.quiet with
    |false=>rw[hq]at h;exact qxm hg ha hz hK h
    |true=>
     rw[hq]at h;have hh:=qb9 h;clear h;obtain⟨y,hF,h⟩:=hh;have q:=qjt hq ha hz hF;obtain⟨gd,gop,gty,gg⟩:=g;simp only at hg;subst hg;refine⟨SL.q q ?_⟩;have:=(hK _ h).out;rwa [qaw]at this
   ·exact qjc hg ha hK (T:=T) h
structure q9x(P:Program)(g:GOp)(K:ESt->Prop)(s:ESt):Prop where
 out:SLG P g (zb7 K) (qbc s)
theorem SLG.weak{g:GOp}{K:St->Prop}{st st':St}(w:qgs st st')(h:SLG P g K st'):SLG P g K st:=⟨fun E M F a wd r=>by
 obtain⟨ι',F',r'⟩:=w E M F a wd r;exact h.out E ι' F' a wd r'⟩
theorem SLG.q{g:GOp}{K:St->Prop}{st:St}{u:V}(hg:g.g=none)(h:QO P g u st)(k:K (st.put g.dst u)):SLG P g K st:=⟨fun E M F a w r=>by
 refine⟨hg,Oper.wp_mono (fun a' w' ⟨c,F',e,gr,v⟩=>?_) (h E M F a w r)⟩;subst e;obtain⟨r2,x2⟩:=r.h.grown gr;exact⟨gr.grown,M,F',_,r.put r2 x2 g.dst v,k⟩⟩
variable {K1:ESt->Prop}
theorem qt4{c:Ctr P}{s:ESt}{us:List EV}{z:Fit c}{g:GOp}{K:ESt->Option ρ}{res:ρ}(hn:isNil c.os=true)(hg:g.g=none)(ha:qgo P g c.f us s)(hz:qtw c s us=some z)(hK:∀s',K s'=some res->K1 s')
  (h:qql c s z g.dst K=some res):q9x P g K1 s:=by
 obtain⟨y,hF,h⟩:=qb9 h;have hh:=qbs h;clear h;obtain⟨hlen,h⟩:=hh;obtain⟨z1,z2,z3,z4,z5,z6,z7⟩:=qld hz;refine⟨⟨fun E M F a w r=>⟨hg,?_⟩⟩⟩;obtain⟨cargs,h1,h2,h3⟩:=ha.out E M F a w r;simp only[Oper.wp,h1,Oper.upon];refine(qwe r.h r.fair c z1 z2 z3 z4 z6 z7 hF hlen (by omega) h3).mono fun e w' ⟨cv,ι',F',k1,k2,k3,k4,k5⟩=>?_;subst k1;exact⟨k5 hn,ι',F',_,r.sub k2 k3 g.dst k4,_,rfl,hK _ h⟩
def qxn(s:ESt)(f:FuncId)(us:List EV)(d:Option Tmp)(K:ESt->Option ρ):List (Ctr P)->Option ρ
 |[]=>none
 | c::T=>bif Nat.beq c.f f&&isNil c.os then(match qtw c s us with
  |some z=>bif c.quiet then qak (c.F z.x z.y) (fun res=>K (s.put d (mkE c.rv res.1)))else qql c s z d K
  | none=>qxn s f us d K T)else qxn s f us d K T
theorem qlg{s:ESt}{f:FuncId}{us:List EV}{g:GOp}{K:ESt->Option ρ}{res:ρ}(hg:g.g=none)(ha:qgo P g f us s)(hK:∀s',K s'=some res->K1 s'):∀ {T:List (Ctr P)},
  qxn s f us g.dst K T=some res->q9x P g K1 s
 |[],h=>by cases h
 |c::T,h=>by
  unfold qxn at h;cases hb:Nat.beq c.f f&&isNil c.os with
  |false=>rw[hb]at h;exact qlg hg ha hK (T:=T) h
  |true=>
   rw[hb]at h;simp only[zgz]at hb;obtain⟨hb,hn⟩:=hb;obtain rfl:=zg2 hb;simp only[cond_true]at h;split at h
   ·rename_i z hz;cases hq:c.quiet with
    |false=>rw[hq]at h;exact qt4 hn hg ha hz hK h
    |true=>
     rw[hq]at h;have hh:=qb9 h;clear h;obtain⟨y,hF,h⟩:=hh;have q:=qjt hq ha hz hF;refine⟨SLG.q hg q ⟨_,?_,hK _ h⟩⟩;rw[qaw]
   ·exact qlg hg ha hK (T:=T) h
structure q68(c:Ctr P) where
 ks:List (Option Nat)
 x:DT c.ar
 y:DO c.os
 yk:DO c.os
def q6z(c:Ctr P)(s:ESt)(us:List EV):Option (q68 c):=
 let ks:=zdk (qub s.heap c.os 0 (q5g (qdb us) c.ar [])) c.os 0
 bif(qqu ks&&(qxy s.heap.next ks&&(q32 0 c.ar&&(qha c.os c.ro&&Nat.beq c.ar.length us.length))))&&q46 c.rv then(match exT ks (qdb (qbz (qh9 s.heap ks) us)) c.ar with
  |some x=>match qow ks s.heap c.os ks with
   |some y=>match qow ks (qf0 s.heap ks) c.os ks with
    |some yk=>some ⟨ks,x,y,yk⟩
    |none=>none
   |none=>none
  | none=>none)else none
theorem q42{c:Ctr P}{s:ESt}{us:List EV}{z:q68 c}(h:q6z c s us=some z):(qqu z.ks=true/\qxy s.heap.next z.ks=true/\q32 0 c.ar=true/\qha c.os c.ro=true/\c.ar.length=us.length)/\q46 c.rv=true /\
  exT z.ks (qdb (qbz (qh9 s.heap z.ks) us)) c.ar=some z.x/\qow z.ks s.heap c.os z.ks=some z.y/\qow z.ks (qf0 s.heap z.ks) c.os z.ks=some z.yk:=by
 unfold q6z at h;simp only at h;have hh:=qaf h;clear h;obtain⟨hb,h⟩:=hh;simp only[zgz]at hb;obtain⟨⟨h1,h2,h3,h4,h5⟩,h6⟩:=hb;split at h
 ·rename_i x hx;split at h
  ·rename_i y hy;split at h
   ·rename_i yk hyk;injection h with h;subst h;exact⟨⟨h1,h2,h3,h4,qbl h5⟩,h6,hx,hy,hyk⟩
   ·cases h
  ·cases h
 ·cases h
def q7v(c:Ctr P)(z:q68 c)(K:Option ρ):Option ρ:=bif isNil c.os then K else grd (okB (z.y=z.yk)) K
theorem qzc{c:Ctr P}{z:q68 c}{K:Option ρ}{res:ρ}(h:q7v c z K=some res):z.yk=z.y/\K=some res:=by
 unfold q7v at h;cases hn:isNil c.os with
 |false=>
  rw[hn]at h;obtain⟨h1,h2⟩:=qbs h;exact⟨(qc5 h1).symm,h2⟩
 |true=>
  rw[hn]at h;obtain⟨ks,x,y,yk⟩:=z;obtain⟨f,q96,ar,os,rv,ro,cF,ok⟩:=c;obtain rfl:=qf2 hn;exact⟨rfl,h⟩
def qmk(c:Ctr P)(s:ESt)(z:q68 c)(d:Option Tmp)(K:ESt->Option ρ):Option ρ:=
 q7v c z (qak (c.F z.x z.y) fun res=>ffK c.ro res.2 (grd (qnx s.heap (mkH c.os.length c.ro res.2) z.ks 0) (K ((s.sub (qa9 (qfn z.ks)) (qgj s.heap z.ks (mkH c.os.length c.ro res.2))).put d (qgq (qu6 z.ks s.heap.next) (mkE c.rv res.1))))))
theorem qmj{c:Ctr P}{s:ESt}{us:List EV}{z:q68 c}{g:GOp}{K:ESt->Option ρ}{res:ρ}(ha:qgo P g c.f us s)(hz:q6z c s us=some z)(h:qmk c s z g.dst K=some res){E:Env}{M:Id->Option Nat}{F:Nat->Prop}{a:Act}{w:World}(r:Rel E M F (qbc s) a w) :
  ∃cargs s',K s'=some res/\(execOp a.eval g.oper).run P w=.ok (.enter c.f cargs) w/\Calls P c.f cargs w fun e w'=>∃cv ι' F',e=.returned cv/\Rel E ι' F' (qbc s') (a.put g.dst cv) w'/\(isNil c.os=true->Grown w w'):=by
 obtain⟨he,h⟩:=qzc h;obtain⟨y,hF,h⟩:=qb9 h;obtain⟨hff,h⟩:=q1j _ _ h;have hh:=qbs h;clear h;obtain⟨hlen,h⟩:=hh;obtain⟨⟨z1,z2,z3,z4,z5⟩,z6,z7,z8,z9⟩:=q42 hz;rw[he]at z9;obtain⟨cargs,h1,h2,h3⟩:=ha.out E M F a w r;refine⟨cargs,_,h,h1,?_⟩;refine(q4u r.h r.fair c z1 z2 z3 z4 z7 z8 z9 hF (zcq z6 hff) hlen (by omega) (fun j hj=>⟨(h3 j hj).born,h3 j hj⟩)).mono fun e w' ⟨cv,ι',F',k1,k2,k3,k4,k5⟩=>?_;exact⟨cv,ι',F',k1,r.sub k2 k3 g.dst k4,k5⟩
theorem qw8{c:Ctr P}{s:ESt}{us:List EV}{z:q68 c}{g:GOp}{K:ESt->Option ρ}{res:ρ}(hg:g.g=none)(ha:qgo P g c.f us s)(hz:q6z c s us=some z)(hK:∀s',K s'=some res->SLT P L Q s')
  (h:qmk c s z g.dst K=some res):SLT P (g::L) Q s:=⟨⟨fun E M F a w r=>by
 obtain⟨cargs,s',hk,h1,h2⟩:=qmj ha hz h r;have hw:g.wanted a.tmps=true:=by unfold GOp.wanted;rw[hg]
 simp only[lwp,hw,if_true,Oper.wp,h1,Oper.upon];refine h2.mono fun e w' ⟨cv,ι',F',k1,k2,_⟩=>?_;subst k1;exact(hK _ hk).out.out E ι' F' _ _ k2⟩⟩
theorem qts{c:Ctr P}{s:ESt}{us:List EV}{z:q68 c}{g:GOp}{K:ESt->Option ρ}{res:ρ}(hn:isNil c.os=true)(hg:g.g=none)(ha:qgo P g c.f us s)(hz:q6z c s us=some z)(hK:∀s',K s'=some res->K1 s')
  (h:qmk c s z g.dst K=some res):q9x P g K1 s:=⟨⟨fun E M F a w r=>by
 obtain⟨cargs,s',hk,h1,h2⟩:=qmj ha hz h r;refine⟨hg,?_⟩;simp only[Oper.wp,h1,Oper.upon];refine h2.mono fun e w' ⟨cv,ι',F',k1,k2,k3⟩=>?_;subst k1;exact⟨k3 hn,ι',F',_,k2,_,rfl,hK _ hk⟩⟩⟩
def qw7(s:ESt)(f:FuncId)(us:List EV)(d:Option Tmp)(K:ESt->Option ρ):List (Ctr P)->Option ρ
 |[]=>none
 | c::T=>bif Nat.beq c.f f then(match q6z c s us with
  |some z=>qmk c s z d K
  | none=>qw7 s f us d K T)else qw7 s f us d K T
def zdn:List OSh->Bool
 |[]=>true
 |.cells _ m::l=>q46.qse m&&zdn l
 |.mp _ N::l=>((qxe N&&qj2 N)&&Nat.blt 0 N.sz)&&zdn l
 |_::l=>zdn l
def qmi(s:ESt)(f:FuncId)(us:List EV):List (Ctr P)->Bool
 |[]=>false
 |c::T=>(Nat.beq c.f f&&(zdn c.ro&&(q6z c s us).isSome))||qmi s f us T
theorem qla{s:ESt}{f:FuncId}{us:List EV}{g:GOp}{K:ESt->Option ρ}{res:ρ}(hg:g.g=none)(ha:qgo P g f us s)(hK:∀s',K s'=some res->SLT P L Q s'):∀ {T:List (Ctr P)},
  qw7 s f us g.dst K T=some res->SLT P (g::L) Q s
 |[],h=>by cases h
 |c::T,h=>by
  unfold qw7 at h;cases hb:Nat.beq c.f f with
  |false=>rw[hb]at h;exact qla hg ha hK (T:=T) h
  |true=>
   rw[hb]at h;obtain rfl:=zg2 hb;simp only[cond_true]at h;split at h
   ·rename_i z hz;exact qw8 hg ha hz hK h
   ·exact qla hg ha hK (T:=T) h
def qr0(s:ESt)(f:FuncId)(us:List EV)(d:Option Tmp)(K:ESt->Option ρ):List (Ctr P)->Option ρ
 |[]=>none
 | c::T=>bif Nat.beq c.f f&&isNil c.os then(match q6z c s us with
  |some z=>qmk c s z d K
  | none=>qr0 s f us d K T)else qr0 s f us d K T
theorem qmh{s:ESt}{f:FuncId}{us:List EV}{g:GOp}{K:ESt->Option ρ}{res:ρ}(hg:g.g=none)(ha:qgo P g f us s)(hK:∀s',K s'=some res->K1 s'):∀ {T:List (Ctr P)},
  qr0 s f us g.dst K T=some res->q9x P g K1 s
 |[],h=>by cases h
 |c::T,h=>by
  unfold qr0 at h;cases hb:Nat.beq c.f f&&isNil c.os with
  |false=>rw[hb]at h;exact qmh hg ha hK (T:=T) h
  |true=>
   rw[hb]at h;simp only[zgz]at hb;obtain⟨hb,hn⟩:=hb;obtain rfl:=zg2 hb;simp only[cond_true]at h;split at h
   ·rename_i z hz;exact qts hn hg ha hz hK h
   ·exact qmh hg ha hK (T:=T) h
def q8f(f:FuncId):List (Ctr P)->Bool
 |[]=>false
 |c::T=>Nat.beq c.f f||q8f f T
theorem qk7{f:FuncId}:∀ {T:List (Ctr P)},q8f f T=true->qd0 P f
 |[],h=>by cases h
 |c::T,h=>by
  simp only[q8f,zh0]at h;rcases h with h|h
  ·obtain rfl:=zg2 h;exact c.q96
  ·exact qk7 h
theorem ESt.qqi{E:Env}{M:Id->Option Nat}{F:Nat->Prop}{s:ESt}{a:Act}{w:World}(r:Rel E M F (qbc s) a w)(x:Operand):qay (toH s.heap) M F w (toV s.heap.len (s.eval x)) (a.eval x):=
 s.qdj x _ _ _ _ _ (r.eval x)
theorem qpv{α:Type}(f:α->EV):∀(l:List α) (j:Nat) (h:j<l.length),qdb (l.map f) j=f l[j]
 |[],_,h=>absurd h (zhf _)
 |a::l,0,_=>rfl
 |a::l,j+1,h=>by simp only[zhg,qdb,List.getElem_cons_succ];exact qpv f l j (by simpa using h)
theorem qvc:∀(l m:List EV) (j:Nat),qdb (l++m) j=if j<l.length then qdb l j else qdb m (j-l.length)
 |[],m,j=>by simp
 |a::l,m,0=>by simp[qdb]
 |a::l,m,j+1=>by
  simp only[zh9,qdb,qvc l m j,zg1,Nat.add_lt_add_iff_right]
  split<;>simp
theorem qij{s:ESt}{f:FuncId}[qd0 P f]{args:Array Operand}{ats:Array TypeId}:qgo P ⟨d,.call { callee:=.value (.func f),args:=args,argTypes:=ats },ty,none⟩ f (args.toList.map s.eval) s:=
 ⟨fun E M F a w r=>⟨args.map a.eval,by simp[execOp,GOp.oper,resolve,Deferred.ofValue,invoke,Act.eval,qfg],by simp,fun j hj=>by
  have hj':j<args.size:=by simpa using hj
  have e2:(args.map a.eval).getD j undef=a.eval args[j]:=by simp[Array.getD,hj']
  rw[e2,qpv _ _ _ (by simpa using hj')];exact ESt.qqi r _⟩⟩
theorem qwl{s:ESt}{f:FuncId}[qd0 P f]{x:Operand}{l:List EV}{args:Array Operand}{ats:Array TypeId}(hx:s.eval x=.fn f l) :
  qgo P ⟨d,.call { callee:=.value x,args:=args,argTypes:=ats },ty,none⟩ f (args.toList.map s.eval++l) s:=
 ⟨fun E M F a w r=>by
  have hr:=ESt.qqi r x;rw[hx]at hr;simp only[toV]at hr;obtain⟨cs,h1,h2,h3⟩:=hr;refine⟨args.map a.eval++cs,by simp[execOp,GOp.oper,resolve,h1,Deferred.ofValue,invoke,qfg],by simp[h2],fun j hj=>?_⟩;rw[qvc];simp only[zha,zit];by_cases hj':j<args.size
  ·rw[if_pos hj'];have e2:(args.map a.eval++cs).getD j undef=a.eval args[j]:=by
    rw[zhl,zi5 (by simpa using hj')];simp[hj']
   rw[e2,qpv _ _ _ (by simpa using hj')];exact ESt.qqi r _
  ·rw[if_neg hj'];have hjn:j-args.size<l.length:=by simp at hj;omega
   obtain⟨c,g1,g2⟩:=h3 (j-args.size) hjn;have e2:(args.map a.eval++cs).getD j undef=c:=by
    rw[zhl,Array.getElem?_append_right (by simpa using zhz hj')];simp[g1]
   rw[e2,qey];exact g2⟩
mutual
def borrow(H:qad):EV->EV
 |.qa5 k p=>match H.at k p with
  |some v=>zcy v
  |none=>.un
 |.b x=>.b x
 |.i k n=>.i k n
 |.s x=>.s x
 |.fz N l=>.fz N l
 |.fp N x c=>.fp N x c
 |.st i x=>.st i x
 |.qby=>.qby
 |.qej=>.qej
 |.qek=>.qek
 |.qel=>.qel
 |.qji=>.qji
 |.agg l=>.agg (borrows H l)
 |.un=>.un
 |.und=>.un
 |.ptr _ _ _ _=>.un
 |.qbq _ _ _ _=>.un
 |.qcd _=>.un
 |.tup _=>.un
 |.fn _ _=>.un
def borrows(H:qad):List EV->List EV
 |[]=>[]
 |a::l=>borrow H a::borrows H l
end
def qt8(H:qad)(u:EV)(K:EV->Option ρ):Option ρ:=match u with
 |.qa5 k (c::p)=>H.atK k (c::p) fun v=>K (zcy v)
 |u=>K (borrow H u)
theorem qt7{H:qad}{u:EV}{K:EV->Option ρ}{res:ρ}(h:qt8 H u K=some res):K (borrow H u)=some res:=by
 unfold qt8 at h;split at h
 ·obtain⟨v,h1,h2⟩:=qad.qe7 h;simp only[borrow,h1];exact h2
 ·exact h
def qje(H:qad):List EV->(List EV->Option ρ)->Option ρ
 |[],K=>K []
 |u::l,K=>qt8 H u fun a=>qje H l fun m=>K (a::m)
theorem qfh{H:qad}:∀ {l:List EV} {K:List EV->Option ρ} {res:ρ},qje H l K=some res->K (borrows H l)=some res
 |[],K,res,h=>h
 |u::l,K,res,h=>qfh (l:=l) (qt7 (u:=u) h)
theorem qng(H:qad):∀l:List EV,(borrows H l).length=l.length
 |[]=>rfl
 |a::l=>by simp[borrows,qng H l]
theorem qjg.un{H:qbe}(u:V):qjg H u .un:=fun E M F w c r h=>trivial
mutual
theorem qsq(H:qad)(len0:Len):∀u:EV,qjg (toH H) (toV H.len u) (toV len0 (borrow H u))
 |.qa5 k p=>by
  simp only[borrow];cases hv':H.at k p with
  |none=>simp only[toV];exact qjg.un _
  |some v=>
   intro E M F w c r hv;simp only[toV,qad.qf1 hv']at hv;exact q1r hv' r hv (fun b hb=>hb.imp (fun h=>h) fun⟨q,q1,q2⟩=>⟨⟨k,q⟩,q1,q2⟩)
 |.b x=>by simp only[borrow,toV];exact qjg.of (Frz.t _)
 |.i k n=>by simp only[borrow,toV];exact qjg.of (Frz.t _)
 |.s x=>by simp only[borrow,toV];exact qjg.of (Frz.t _)
 |.fz N l=>by simp only[borrow,toV];exact qjg.of (Frz.t _)
 |.fp N x c=>by simp only[borrow,toV];exact qjg.of (Frz.fp _ _)
 |.st i x=>by simp only[borrow,toV];exact qjg.agg fun j hj=>qjg.of (Frz.t _)
 |.qby=>by simp only[borrow,toV];exact fun E M F w c r h=>h
 |.qej=>by simp only[borrow,toV];exact fun E M F w c r h=>h
 |.qek=>by simp only[borrow,toV];exact fun E M F w c r h=>h
 |.qel=>by simp only[borrow,toV];exact fun E M F w c r h=>h
 |.qji=>by simp only[borrow,toV];exact qjg.of (Frz.t _)
 |.agg l=>by simp only[borrow,toV,qng];exact qjg.agg fun j hj=>qo8 H len0 l j
 |.un=>by simp only[borrow,toV];exact qjg.un _
 |.und=>by simp only[borrow,toV];exact qjg.un _
 |.ptr _ _ _ _=>by simp only[borrow,toV];exact qjg.un _
 |.qbq _ _ _ _=>by simp only[borrow,toV];exact qjg.un _
 |.qcd _=>by simp only[borrow,toV];exact qjg.un _
 |.tup _=>by simp only[borrow,toV];exact qjg.un _
 |.fn _ _=>by simp only[borrow,toV];exact qjg.un _
theorem qo8(H:qad)(len0:Len):∀(l:List EV) (j:Nat),qjg (toH H) (qa3 H.len l j) (qa3 len0 (borrows H l) j)
 |[],j=>by simp only[borrows,qa3];exact qjg.un _
 |a::l,0=>by simp only[borrows,qa3];exact qsq H len0 a
 |a::l,j+1=>by simp only[borrows,qa3];exact qo8 H len0 l j
end
def qnr:Sh->Bool
 |.b=>true
 |.i _=>true
 |.s=>true
 |.qji=>true
 |.tup [.b]=>true
 |.tup [.i _,.b]=>true
 |.tup [.i _,.i _]=>true
 |_=>false
theorem q33{len:Len}:∀ {a:Sh} (x:a.D),qnr a=true->qku (toV len (mkE a x))
 |.b,x,_=>by simp only[mkE,toV];exact qku.bool _
 |.i _,x,_=>by simp only[mkE,toV];exact qku.int _ _
 |.s,x,_=>by simp only[mkE,toV];exact qku.str _
 |.qji,x,_=>by simp only[mkE,toV];exact qku.q4h
 |.tup [.b],x,_=>by
  simp only[mkE,qnt,toV];refine qku.tup fun j hj=>?_
  match j,hj with
  |0,_=>simp only[qa3,toV];exact qku.bool _
 |.tup [.i _,.b],x,_=>by
  simp only[mkE,qnt,toV];refine qku.tup fun j hj=>?_
  match j,hj with
  |0,_=>simp only[qa3,toV];exact qku.int _ _
  |1,_=>simp only[qa3,toV];exact qku.bool _
 |.tup [.i _,.i _],x,_=>by
  simp only[mkE,qnt,toV];refine qku.tup fun j hj=>?_
  match j,hj with
  |0,_=>simp only[qa3,toV];exact qku.int _ _
  |1,_=>simp only[qa3,toV];exact qku.int _ _
def noS(us:List EV):ESt:=⟨0,qdb us,mkH 0 [] ()⟩
theorem Ctr.pc{c:Ctr P}{us:List EV}{z:Fit c}(hq:c.quiet=true)(hz:qtw c (noS us) us=some z){res:c.rv.D×DO c.ro}(hF:c.F z.x z.y=some res) :
  PC P c.f (us.map (toV (mkH 0 [] ()).len)) (toV (mkH 0 [] ()).len (mkE c.rv res.1)):=⟨fun F w cargs hlt hl ha=>by
 obtain⟨z1,z2,z3,z4,z5,z6,z7⟩:=qld hz;obtain⟨ks,x,y⟩:=z;obtain⟨f,q96,ar,os,rv,ro,cF,ok⟩:=c;simp only[Ctr.quiet,zgz]at hq;simp only at x y hF z1 z2 z3 z4 z5 z6 z7 res ok ⊢;obtain rfl:=qf2 hq.1;obtain rfl:=qf2 hq.2;have r0:qc4 ⟨w,fun _=>False,qbe.none,noι,F⟩ noι F (toH (noS us).heap) w:=qc4.start hlt;have pt:Part (toH (noS us).heap) (toH (mkH 0 [] y)) (mK ks):=qjw z7 z1;have hR:qik ks (noS us).heap (mkH 0 [] y) (mK ks):=qgd z7;have r2:=pt.rel r0;rw[zha]at hl;have hargs:∀j,j<(qc2 ar x).length->qay (toH (mkH 0 [] y)) (mι (mK ks) noι) F w (toV (mkH 0 [] y).len (qdb (qc2 ar x) j)) (cargs.getD j undef):=fun j hj=>by
  rw[qc0]at hj;rw[qir z3 j,zg9];have h3:qay (toH (noS us).heap) noι F w (toV (noS us).heap.len (qdb us j)) (cargs.getD j undef):=by
   have:=ha j (by rw[zha];omega)
   rw[zg0,zh5]at this;rw[qey,qde,zg0];cases hu:us[j]? with
   |none=>rw[hu]at this;simp only[Option.getD_none,toV];exact trivial
   |some u=>rw[hu]at this;exact this
  have:=qov (Z:=fun _=>False) hR ar x z6 j _ _ _ _ _ r0 h3;rw[qkb]at this;exact this
 refine((ok x y res hF).out _ _ _ _ cargs r2 (by rw[qc0];omega) hargs).mono fun e w' ⟨v,ι3,F3,Hx,cv,k1,r3,hv,k4,k5⟩=>?_
 subst k1;subst k4;subst k5;refine⟨cv,F3,rfl,r3.os,r3.tape,r3.output,r3.size,fun b hb=>r3.kept b hb ?_,fun b hb=>?_,fun b hb=>?_,r3.qno,qay.qu9 hv⟩
 ·rintro⟨id,h,_⟩;exact h
 ·have:=r3.ext (.fp 0 (fun _=>.any)) (.pointer (some ⟨b,0,none⟩)) ⟨b,0,rfl,hb,fun j hj=>absurd hj (zhf _)⟩;obtain⟨b',o',e1,e2,_⟩:=this;injection e1 with e1;injection e1 with e1;injection e1 with e1;subst e1;exact e2
 ·rcases r3.qxc b hb with h|⟨id,h,_⟩|h
  ·exact .inl h
  ·exact h.elim
  ·exact .inr h⟩
theorem qrz{s:ESt}(len0:Len):∀l:List Operand,q7a (qjg (qbc s).heap) (l.map (qbc s).eval) ((borrows s.heap (l.map s.eval)).map (toV len0))
 |[]=>.nil
 |x::l=>.cons (fun E M F w c r h=>qsq s.heap len0 (s.eval x) E M F w c r (s.qdj x _ _ _ _ _ h)) (qrz len0 l)
theorem qmg{c:Ctr P}{s:ESt}{args:Array Operand}{ats:Array TypeId}{z:Fit c}(hq:c.quiet=true)(hs:qnr c.rv=true)(hz:qtw c (noS (borrows s.heap (args.toList.map s.eval))) (borrows s.heap (args.toList.map s.eval))=some z)
  {res:c.rv.D×DO c.ro} (hF:c.F z.x z.y=some res):QO P ⟨d,.call { callee:=.value (.func c.f),args:=args,argTypes:=ats },ty,none⟩ (toV s.heap.len (mkE c.rv res.1)) (qbc s):=by
 have:=c.q96;have h1:=QO.qak (d:=d) (ty:=ty) (ats:=ats) (c.pc hq hz hF) (qrz _ _) (q33 res.1 hs);have e:toV s.heap.len (mkE c.rv res.1)=toV (mkH 0 [] ()).len (mkE c.rv res.1):=by
  have key:∀ {a:Sh} (x:a.D) (len len':Len),qnr a=true->toV len (mkE a x)=toV len' (mkE a x):=fun {a} x len len' h=>by
   unfold qnr at h
   split at h<;>first|(simp only[mkE,toV];done)|(simp only[mkE,qnt,toV];congr 1;funext j;match j with
    |0=>simp only[qa3,toV]
    |1=>simp only[qa3,toV]
    | n+2=>simp only[qa3,toV])|cases h
  exact key _ _ _ hs
 rw[e];exact h1
inductive Pn where
 |nil
 |fl (i:Nat) (p:Pn)
 |rd (i:Nat) (p:Pn)
 |qu (l:List Nat) (p:Pn)
 |on (i:Nat) (p:Pn)
 |br (i:Nat) (p q:Pn)
 |no
structure Opt where
 wr:Bool:=false
 tr:Bool:=false
 fr:Bool:=false
 tk:Bool:=false
 md:List Nat:=[]
 rt:List (Nat×Nat):=[]
 ab:List Nat:=[]
 pl:Pn:=.no
def qmn:Op->Bool
 |.makeFunc _ _ _=>true
 |.build _ _=>true
 |.lookup _ _ _ _=>true
 |.slice _ _ _ _ _=>true
 |op=>q4x op
def q35(P:Program)[Tys P][TyX P](wr:Bool)(ev:Operand->EV)(H:qad)(op:Op)(K:EV->Option ρ):Option ρ:=bif wr then(match op with
 |.binOp o tx x y tY=>match o,ev x,ev y with
  |.add,.i k m,.i k' n=>bif qdo k k' then K (.i k (k.wrap (m+n)))else none
  |.sub,.i k m,.i k' n=>bif qdo k k' then K (.i k (k.wrap (m-n)))else none
  |.mul,.i k m,.i k' n=>bif qdo k k' then K (.i k (k.wrap (m*n)))else none
  |_,_,_=>q6e P ev H (.binOp o tx x y tY) K
 | op=>q6e P ev H op K)else q6e P ev H op K
theorem quz[T:Tys P][TyX P]{wr:Bool}{s:ESt}{op:Op}{K:EV->Option ρ}{res:ρ}(h:q35 P wr s.eval s.heap op K=some res):∃u,(∀d ty,QV P ⟨d,op,ty,none⟩ (toV s.heap.len u) (qbc s))/\K u=some res:=by
 unfold q35 at h;cases wr with
 |false=>exact qs7 h
 |true=>
  simp only[cond_true]at h;split at h
  ·rename_i o tx x y tY;split at h
   all_goals first
    |exact qs7 h
    | (rename_i k m k' n hx hy
       have hx:=eval_eq hx rfl;have hy:=eval_eq hy rfl;simp only[toV]at hx hy;have hh:=qaf h;clear h;obtain⟨hk,h⟩:=hh;have:=qcx hk;subst this
       first
        |exact⟨_,fun d ty=>(by simp only[toV];exact O.add hx hy rfl),h⟩
        |exact⟨_,fun d ty=>(by simp only[toV];exact O.sub hx hy rfl),h⟩
        | exact⟨_,fun d ty=>(by simp only[toV];exact O.mul hx hy rfl),h⟩)
  ·exact qs7 h
def qk1:List EV->List Nat
 |[]=>[]
 |u::l=>qpr u++qk1 l
def qr1(s:ESt)(f:FuncId)(bs:List EV)(d:Option Tmp)(K:ESt->Option ρ):List (Ctr P)->Option ρ
 |[]=>none
 | c::T=>bif Nat.beq c.f f&&(c.quiet&&qnr c.rv)then(match qtw c (noS bs) bs with
  |some z=>qak (c.F z.x z.y) fun res=>K (s.put d (mkE c.rv res.1))
  | none=>qr1 s f bs d K T)else qr1 s f bs d K T
def qlh(s:ESt)(f:FuncId)(us:List EV):List (Ctr P)->Bool
 |[]=>false
 |c::T=>(Nat.beq c.f f&&(qtw c s us).isSome)||qlh s f us T
def qp7(f:FuncId)(bs:List EV):List (Ctr P)->Bool
 |[]=>false
 |c::T=>(Nat.beq c.f f&&(c.quiet&&(qnr c.rv&&(qtw c (noS bs) bs).isSome)))||qp7 f bs T
def q88(T:List (Ctr P))(s:ESt)(f:FuncId)(args:List Operand)(d:Option Tmp)(K:ESt->Option ρ):Option ρ:=
 bif q8f f T then(match qlh s f (args.map s.eval) T with
  |true=>qt5 s f (args.map s.eval) d K T
  |false=>qje s.heap (args.map s.eval) fun bs=>match qp7 f bs T with
   |true=>qr1 s f bs d K T
   |false=>match qmi s f (args.map s.eval) T with
    |true=>qw7 s f (args.map s.eval) d K T
    | false=>qh0 s (fun s'=>qt5 s' f (args.map s'.eval) d K T) (qk1 (args.map s.eval)))else none
def qci(wr:Opt)(T:List (Ctr P))[Tys P][TyE P][TyX P](s:ESt)(d:Option Tmp)(op:Op)(K:ESt->Option ρ):Option ρ:=
 bif qmn op then q35 P wr.wr s.eval s.heap op (fun u=>K (s.put d u))else
 match op with
 |.box e x=>zfj e (TyE.c P e) (s.eval x) (qvd s d (fun id=>.ptr id [] 0 0) K)
 |.alloc e=>q2i P e (qvd s d (fun id=>.ptr id [] 0 0) K)
 |.store t x y=>qy2 P s d t x y K
 |.buildSlice t n A=>qh0 s (fun s'=>q15 P s' t n A (qvd s' d (fun id=>.qa5 id []) K)) (qk1 (A.toList.map fun a=>s.eval a.2))
 |.makeMap t r=>match r with
  |none=>qp2 P t (fun o=>qw6 s.heap.next fun id=>K ((s.on (s.heap.add id o)).put d (.qcd id)))
  |some _=>none
 |.mapUpdate t x y z=>zdw P s d t x y z K
 |.makeSlice t x y=>zb4 P s d t x y K (q8g P s t x y (qvd s d (fun id=>.qa5 id []) K))
 |.call c=>match c.callee with
  |.value (.func f)=>qki s c.args.toList fun us=>q88 T s f c.args.toList d K
  |.value (.tmp x)=>match s.env x with
   | .fn f l=>qki s c.args.toList fun us=>bif q8f f T then(match qlh s f (us++l) T with
    |true=>qt5 s f (us++l) d K T
    | false=>qw7 s f (us++l) d K T)else none
   |_=>none
  |.builtin .append=>match c.args.toList,c.argTypes.toList with
   |[x,y],[t,t']=>bif Nat.beq t t' then zbj s x (fun s'=>zfm P s' d t x y K)else none
   |_,_=>none
  |.builtin .clear=>match c.args.toList,c.argTypes.toList with
   |[x],[t]=>q1w P s d t x K
   |_,_=>none
  |_=>none
 |_=>none
def q7q(d:Option Tmp)(K:ESt->Option ρ)(s:ESt):Option ρ:=match d with
 |some t=>quq t 8 s K
 |none=>K s
def qpl(wr:Opt)(T:List (Ctr P))[Tys P][TyE P][TyX P](s:ESt)(d:Option Tmp)(op:Op)(K:ESt->Option ρ):Option ρ:=match op with
 |.load t x=>bif wr.tk then qci wr T s d (.load t x) (q7q d K)else qci wr T s d (.load t x) K
 |.store t x y=>bif wr.tk then(bif Nat.blt 0 (Tys.c P t).sz then qkx s d (Tys.c P t).agg (Tys.c P t).sz (s.eval x) (s.eval y) K (qci wr T s d (.store t x y) K)else none)else
  bif wr.fr then qh0 s (fun s'=>qci wr T s' d (.store t x y) K) (qpr (s.eval y))else qci wr T s d (.store t x y) K
 |.buildSlice t n A=>bif wr.tk then q17 P s t n A (qvd s d (fun id=>.qbq id [] 0 1) K)else qci wr T s d (.buildSlice t n A) K
 |.call c=>match c.callee with
  |.value _=>bif wr.fr then q0n s c.args.toList (fun s1 K1=>qci wr T s1 d (.call c) K1) K else qci wr T s d (.call c) K
  | .builtin .append=>bif wr.tk then(match c.args.toList,c.argTypes.toList with
   |[x,y],[t,t']=>bif Nat.beq t t' then q9v P s d t x y K (qci wr T s d (.call c) K)else none
   | _,_=>none)else qci wr T s d (.call c) K
  |_=>qci wr T s d (.call c) K
 |op=>qci wr T s d op K
def qly(wr:Opt)(T:List (Ctr P))[Tys P][TyE P][TyX P](s:ESt)(d:Option Tmp)(op:Op)(K:ESt->Option ρ):Option ρ:=match op with
 |.slice t x none (some y) none=>bif wr.tr then qyw P s d t x y K else qci wr T s d (.slice t x none (some y) none) K
 |.convert src dst x=>match(Tys.c P dst).sl with
  |some _=>q13 P s d src dst x K
  |none=>qci wr T s d (.convert src dst x) K
 |.binOp o t x y tY=>match zes s o x y with
  |some (neg,emp)=>bif q0w P t then zf2 s d neg emp K else none
  |none=>qci wr T s d (.binOp o t x y tY) K
 |op=>bif wr.tk||wr.fr then qpl wr T s d op K else qci wr T s d op K
theorem qp5{s:ESt}{f:FuncId}{args:Array Operand}{ats:Array TypeId}{K:ESt->Option ρ}{res:ρ}(hK:∀s',K s'=some res->SLT P L Q s'):∀ {T:List (Ctr P)},
  qr1 s f (borrows s.heap (args.toList.map s.eval)) d K T=some res->SLT P (⟨d,.call { callee:=.value (.func f),args:=args,argTypes:=ats },ty,none⟩::L) Q s
 |[],h=>by cases h
 |c::T,h=>by
  unfold qr1 at h;cases hb:Nat.beq c.f f&&(c.quiet&&qnr c.rv)with
  |false=>rw[hb]at h;exact qp5 hK (T:=T) h
  |true=>
   rw[hb]at h;simp only[zgz]at hb;obtain⟨hb,hq,hs⟩:=hb;obtain rfl:=zg2 hb;simp only[cond_true]at h;split at h
   ·rename_i z hz;have hh:=qb9 h;clear h;obtain⟨y,hF,h⟩:=hh;refine⟨SL.q (qmg (d:=d) (ty:=ty) (ats:=ats) hq hs hz hF) ?_⟩;have:=(hK _ h).out;rwa [qaw]at this
   ·exact qp5 hK (T:=T) h
theorem q5e{T:List (Ctr P)}{s:ESt}{f:FuncId}{args:Array Operand}{ats:Array TypeId}{K:ESt->Option ρ}{res:ρ}(hK:∀s',K s'=some res->SLT P L Q s')
  (h:q88 T s f args.toList d K=some res):SLT P (⟨d,.call { callee:=.value (.func f),args:=args,argTypes:=ats },ty,none⟩::L) Q s:=by
 unfold q88 at h;have hh:=qaf h;clear h;obtain⟨hm,h⟩:=hh;have:=qk7 hm;split at h
 ·exact qjc (g:=⟨d,_,ty,none⟩) rfl qij hK h
 ·have h:=qfh h;split at h
  ·exact qp5 hK h
  ·split at h
   ·exact qla (g:=⟨d,_,ty,none⟩) rfl qij hK h
   ·obtain⟨s',w,h⟩:=qdk _ _ h;exact SLT.weak w (qjc (g:=⟨d,_,ty,none⟩) rfl qij hK h)
theorem qp6{s:ESt}{f:FuncId}{args:Array Operand}{ats:Array TypeId}{K:ESt->Option ρ}{res:ρ}(hK:∀s',K s'=some res->K1 s'):∀ {T:List (Ctr P)},
  qr1 s f (borrows s.heap (args.toList.map s.eval)) d K T=some res->q9x P ⟨d,.call { callee:=.value (.func f),args:=args,argTypes:=ats },ty,none⟩ K1 s
 |[],h=>by cases h
 |c::T,h=>by
  unfold qr1 at h;cases hb:Nat.beq c.f f&&(c.quiet&&qnr c.rv)with
  |false=>rw[hb]at h;exact qp6 hK (T:=T) h
  |true=>
   rw[hb]at h;simp only[zgz]at hb;obtain⟨hb,hq,hs⟩:=hb;obtain rfl:=zg2 hb;simp only[cond_true]at h;split at h
   ·rename_i z hz;have hh:=qb9 h;clear h;obtain⟨y,hF,h⟩:=hh;refine⟨SLG.q rfl (qmg (d:=d) (ty:=ty) (ats:=ats) hq hs hz hF) ⟨_,?_,hK _ h⟩⟩;rw[qaw]
   ·exact qp6 hK (T:=T) h
def zcf(f:FuncId):List (Ctr P)->Bool
 |[]=>true
 |c::T=>(!(Nat.beq c.f f)||isNil c.os)&&zcf f T
def q10(T:List (Ctr P))(s:ESt)(f:FuncId)(args:List Operand)(d:Option Tmp)(K:ESt->Option ρ):Option ρ:=
 bif q8f f T then(match qlh s f (args.map s.eval) T with
  |true=>qxn s f (args.map s.eval) d K T
  |false=>qje s.heap (args.map s.eval) fun bs=>match qp7 f bs T with
   |true=>qr1 s f bs d K T
   |false=>match qmi s f (args.map s.eval) T with
    |true=>qr0 s f (args.map s.eval) d K T
    | false=>qh0 s (fun s'=>qxn s' f (args.map s'.eval) d K T) (qk1 (args.map s.eval)))else none
theorem q1z{T:List (Ctr P)}{s:ESt}{f:FuncId}{args:Array Operand}{ats:Array TypeId}{K:ESt->Option ρ}{res:ρ}(hK:∀s',K s'=some res->K1 s')
  (h:q10 T s f args.toList d K=some res):q9x P ⟨d,.call { callee:=.value (.func f),args:=args,argTypes:=ats },ty,none⟩ K1 s:=by
 unfold q10 at h;have hh:=qaf h;clear h;obtain⟨hm,h⟩:=hh;have:=qk7 hm;split at h
 ·exact qlg (g:=⟨d,_,ty,none⟩) rfl qij hK h
 ·have h:=qfh h;split at h
  ·exact qp6 hK h
  ·split at h
   ·exact qmh (g:=⟨d,_,ty,none⟩) rfl qij hK h
   ·obtain⟨s',w,h⟩:=qdk _ _ h;exact⟨SLG.weak w (qlg (g:=⟨d,_,ty,none⟩) rfl qij hK h).out⟩
def zcc(T:List (Ctr P))(op:Op):Bool:=match op with
 |.call c=>match c.callee with
  |.value (.func f)=>q8f f T&&zcf f T
  |_=>false
 |_=>false
def zel(T:List (Ctr P))(K:ESt->Option ρ)(g:GOp)(s:ESt):Option ρ:=match g with
 |⟨d,.call c,_,none⟩=>match c.callee with
  |.value (.func f)=>qki s c.args.toList fun us=>q10 T s f c.args.toList d K
  |_=>none
 |_=>none
theorem q7w{T:List (Ctr P)}{K:ESt->Option ρ}{res:ρ}{g:GOp}{s:ESt}(hK:∀s',K s'=some res->K1 s')(h:zel T K g s=some res):q9x P g K1 s:=by
 unfold zel at h;split at h
 ·rename_i d c ty;obtain⟨callee,args,ats⟩:=c;split at h
  ·rename_i f hc;simp only at hc;subst hc;rw[qf3]at h;exact q1z hK h
  ·cases h
 ·cases h
theorem qbn{wr:Opt}{T:List (Ctr P)}[Tys P][TyE P][TyX P]{s:ESt}{op:Op}{K:ESt->Option ρ}{res:ρ}(hK:∀s',K s'=some res->SLT P L Q s')(h:qci wr T s d op K=some res):SLT P (⟨d,op,ty,none⟩::L) Q s:=by
 unfold qci at h;cases hp:qmn op with
 |true=>
  rw[hp]at h;simp only[cond_true]at h;obtain⟨u,h1,h2⟩:=quz h;refine⟨SL.o (h1 d ty) ?_⟩;have:=(hK _ h2).out;rwa [qaw]at this
 |false=>
  rw[hp]at h;simp only[cond_false]at h;split at h
  ·exact q9a hK h
  ·exact q2h hK h
  ·exact qy1 hK h
  ·obtain⟨s',w,h⟩:=qdk _ _ h;exact SLT.weak w (q14 hK h)
  ·split at h
   ·exact qtq hK h
   ·cases h
  ·exact q7e hK h
  ·exact q4l hK (fun h=>q4m hK h) h
  ·rename_i c;obtain⟨callee,args,ats⟩:=c;split at h
   ·rename_i f hc;simp only at hc;subst hc;rw[qf3]at h;exact q5e hK h
   ·rename_i x hc;simp only at hc;subst hc;split at h
    ·rename_i f l hx;rw[qf3]at h;have hh:=qaf h;clear h;obtain⟨hm,h⟩:=hh;have:=qk7 hm;split at h
     ·exact qjc (g:=⟨d,_,ty,none⟩) rfl (qwl (x:=.tmp x) hx) hK h
     ·exact qla (g:=⟨d,_,ty,none⟩) rfl (qwl (x:=.tmp x) hx) hK h
    ·cases h
   ·rename_i hc;simp only at hc;subst hc;split at h
    ·rename_i x y t t' ha ht;simp only at ha ht;have hh:=qaf h;clear h;obtain⟨hb,h⟩:=hh;obtain rfl:=zg2 hb;obtain⟨al⟩:=args;obtain⟨tl⟩:=ats;simp only at ha ht;subst ha;subst ht;obtain⟨s',w,h⟩:=qyz h;exact⟨SL.fair fun hf=>SL.weak (w hf) (q9u hK h).out⟩
    ·cases h
   ·rename_i hc;simp only at hc;subst hc;split at h
    ·rename_i x t ha ht;simp only at ha ht;obtain⟨al⟩:=args;obtain⟨tl⟩:=ats;simp only at ha ht;subst ha;subst ht;exact q1v hK h
    ·cases h
   ·cases h
  ·cases h
theorem qy0{d:Option Tmp}{K:ESt->Option ρ}{s:ESt}{res:ρ}(h:q7q d K s=some res):∃s',qb1 s s'/\K s'=some res:=by
 unfold q7q at h;split at h
 ·exact qn6 h
 ·exact⟨s,qb1.refl s,h⟩
theorem qs8{wr:Opt}{T:List (Ctr P)}[Tys P][TyE P][TyX P]{s:ESt}{op:Op}{K:ESt->Option ρ}{res:ρ}(hK:∀s',K s'=some res->SLT P L Q s')(h:qpl wr T s d op K=some res):SLT P (⟨d,op,ty,none⟩::L) Q s:=by
 unfold qpl at h;split at h
 ·cases ht:wr.tk with
  |true=>
   rw[ht]at h;simp only[cond_true]at h;refine qbn (wr:=wr) (T:=T) (fun s' h'=>?_) h;obtain⟨s'',w,h''⟩:=qy0 h';exact SLT.weak w (hK _ h'')
  |false=>rw[ht]at h;simp only[cond_true,cond_false]at h;exact qbn (wr:=wr) (T:=T) hK h
 ·cases ht:wr.tk with
  |true=>
   rw[ht]at h;simp only[cond_true]at h;obtain⟨h0,g⟩:=qaf h;exact⟨SL.fair fun hf=>qlp hK h0 (fun h'=>(qbn (wr:=wr) (T:=T) hK h').out) hf g⟩
  |false=>
   rw[ht]at h;simp only[cond_false]at h;cases hf:wr.fr with
   |true=>
    rw[hf]at h;obtain⟨s',w,h'⟩:=qdk _ _ h;exact SLT.weak w (qbn (wr:=wr) (T:=T) hK h')
   |false=>rw[hf]at h;exact qbn (wr:=wr) (T:=T) hK h
 ·cases ht:wr.tk with
  |true=>rw[ht]at h;simp only[cond_true,cond_false]at h;exact q16 hK h
  |false=>rw[ht]at h;simp only[cond_true,cond_false]at h;exact qbn (wr:=wr) (T:=T) hK h
 ·rename_i c;split at h
  ·cases ht:wr.fr with
   |true=>
    rw[ht]at h;simp only[cond_true]at h;obtain⟨s1,K1,w,h1,hk⟩:=qw9 h;refine SLT.weak w (qbn (wr:=wr) (T:=T) (fun s' h'=>?_) h1);obtain⟨s'',w',h''⟩:=hk s' h';exact SLT.weak w' (hK _ h'')
   |false=>rw[ht]at h;simp only[cond_true,cond_false]at h;exact qbn (wr:=wr) (T:=T) hK h
  ·rename_i hc;cases ht:wr.tk with
   |true=>
    rw[ht]at h;simp only[cond_true]at h;split at h
    ·rename_i x y t t' ha htt;obtain⟨hb,g⟩:=qaf h;clear h;obtain rfl:=qbl hb;obtain⟨callee,⟨al⟩,⟨tl⟩⟩:=c;simp only at ha htt hc;subst ha;subst htt;subst hc;exact q5n hK (fun h'=>qbn (wr:=wr) (T:=T) hK h') g
    ·cases h
   |false=>rw[ht]at h;simp only[cond_true,cond_false]at h;exact qbn (wr:=wr) (T:=T) hK h
  ·exact qbn (wr:=wr) (T:=T) hK h
 ·exact qbn (wr:=wr) (T:=T) hK h
theorem qjp{wr:Opt}{T:List (Ctr P)}[Tys P][TyE P][TyX P]{s:ESt}{op:Op}{K:ESt->Option ρ}{res:ρ}(hK:∀s',K s'=some res->SLT P L Q s')(h:qly wr T s d op K=some res):SLT P (⟨d,op,ty,none⟩::L) Q s:=by
 unfold qly at h;split at h
 ·rename_i t x y;cases ht:wr.tr with
  |true=>rw[ht]at h;exact qyv hK h
  |false=>rw[ht]at h;exact qbn (T:=T) hK h
 ·split at h
  ·exact q12 hK h
  ·exact qbn (T:=T) hK h
 ·split at h
  ·rename_i hq;have hh:=qaf h;clear h;obtain⟨hb,h⟩:=hh;exact q8d hK hq hb h
  ·exact qbn (T:=T) hK h
 ·cases ht:wr.tk||wr.fr with
  |true=>rw[ht]at h;exact qs8 (T:=T) hK h
  |false=>rw[ht]at h;exact qbn (T:=T) hK h
def qzj(wr:Opt)(T:List (Ctr P))[Tys P][TyE P][TyX P](K:ESt->Option ρ):List GOp->ESt->Option ρ
 |[],s=>K s
 |⟨d,op,ty,none⟩::L,s=>qly wr T s d op (qzj wr T K L)
 |⟨d,op,ty,some (some t,w)⟩::L,s=>match s.env t with
  |.und=>qzj wr T K L (s.put d .und)
  |.b b=>bif Nat.blt t s.nt then
    (bif w then(bif b then qly wr T (s.put (some t) (.b true)) d op (qzj wr T K L)else qzj wr T K L ((s.put (some t) (.b false)).put d .und))
      else(bif b then qzj wr T K L ((s.put (some t) (.b true)).put d .und)else qly wr T (s.put (some t) (.b false)) d op (qzj wr T K L)))else none
  |_=>none
 |⟨_,_,_,some (none,_)⟩::_,_=>none
theorem zct{s:ESt}{t:Nat}{u:EV}(h:s.env t=u):(qbc s).env t=toV s.heap.len u:=by subst h;rfl
theorem zc3{b:Bool}{x y:Option ρ}{r:ρ}(h:(bif b then x else y)=some r):(b=true->x=some r)/\(b=false->y=some r):=by
 cases b
 ·exact⟨fun e=>(by cases e),fun _=>h⟩
 ·exact⟨fun _=>h,fun e=>(by cases e)⟩
theorem qgc{wr:Opt}{T:List (Ctr P)}[Tys P][TyE P][TyX P]{K:ESt->Option ρ}{res:ρ}(hK:∀s',K s'=some res->Q .normal s'):∀(L:List GOp) (s:ESt),qzj wr T K L s=some res->SLT P L Q s
 |[],s,h=>⟨SL.nil ⟨s,rfl,hK _ h⟩⟩
 |⟨d,op,ty,none⟩::L,s,h=>qjp (qgc hK L) h
 |⟨d,op,ty,some (some t,w)⟩::L,s,h=>by
  unfold qzj at h;split at h
  ·rename_i hu;have hu:=zct hu;simp only[toV]at hu;refine⟨SL.gu hu ?_⟩;have:=(qgc hK L _ h).out;rwa [qaw]at this
  ·rename_i b hb;have hb:=zct hb;simp only[toV]at hb;have hh:=qaf h;clear h;obtain⟨hlt,h⟩:=hh;have hlt':Nat.blt t (qbc s).nt=true:=hlt;cases w with
   |true=>
    simp only[cond_true]at h;obtain⟨h1,h2⟩:=zc3 h;refine⟨SL.qq7 (w:=true) rfl hb hlt' (fun e=>?_) (fun e=>?_)⟩
    ·have:=(qjp (ty:=ty) (qgc hK L) (h1 e)).out;rw[qaw]at this;exact SL.gy (by rw[qcz,hlt'];rfl) hlt' this
    ·have:=(qgc hK L _ (h2 e)).out;rw[qaw,qaw]at this;exact SL.gn (by rw[qcz,hlt'];rfl) hlt' this
   |false=>
    simp only[cond_false]at h;obtain⟨h1,h2⟩:=zc3 h;refine⟨SL.qq7 (w:=false) rfl hb hlt' (fun e=>?_) (fun e=>?_)⟩
    ·have:=(qgc hK L _ (h1 e)).out;rw[qaw,qaw]at this;exact SL.gn (by rw[qcz,hlt'];rfl) hlt' this
    ·have:=(qjp (ty:=ty) (qgc hK L) (h2 e)).out;rw[qaw]at this;exact SL.gy (by rw[qcz,hlt'];rfl) hlt' this
  ·cases h
 |⟨_,_,_,some (none,_)⟩::_,_,h=>by cases h
end
end
end Go.Abs
namespace Go.Abs
open Go
variable {P:Program} {Q:Exit->St->Prop} {st:St}
def zcl(A:Array Oper)(D:List Nat)(i:Nat):Bool:=
 match A[i]? with
 |none=>false
 |some oi=>(List.range A.size).all fun j=>Nat.beq j i||D.contains j||match A[j]? with
   |some oj=>(qd4 A j).contains i||oi.apart A oj
   |none=>true
def zdq(A:Array Oper)(D:List Nat)(i:Nat):Bool:=
 Nat.blt i A.size&&!D.contains i&&((qd4 A i).all fun x=>D.contains x)&&Region.noSelect A&&zcl A D i&&(D.all fun k=>(qd4 A k).all fun e=>D.contains e)
end Go.Abs
namespace Go.Abs
open Go
variable {P:Program}
def Nv{α:Type}(P:Program)(s:Sem α):Prop:=∀w x w',s.run P w≠.ok x w'
def Cn{α:Type}(P:Program)(s:Sem α):Prop:=∀w x w',s.run P w=.ok x w'->w'=w/\∀w2,s.run P w2=.ok x w2
def Rd{α:Type}(P:Program)(s:Sem α):Prop:=∀w x w',s.run P w=.ok x w'->w'=w/\∀w2,Grown w w2->s.run P w2=.ok x w2
def Gr{α:Type}(P:Program)(s:Sem α):Prop:=∀w x w',s.run P w=.ok x w'->Grown w w'
section
variable {α β:Type} {s:Sem α} {f:α->Sem β}
theorem Nv.cn(h:Nv P s):Cn P s:=fun w x w' e=>absurd e (h w x w')
theorem Cn.rd(h:Cn P s):Rd P s:=fun w x w' e=>⟨(h w x w' e).1,fun w2 _=>(h w x w' e).2 w2⟩
theorem Rd.gr(h:Rd P s):Gr P s:=fun w x w' e=>by rw[(h w x w' e).1];exact Grown.refl _
theorem Cn.gr(h:Cn P s):Gr P s:=h.rd.gr
theorem Nv.halt(h:Halt):Nv P (.halt h:Sem α):=fun w x w' e=>by cases e
theorem Nv.stuck(why:String):Nv P (Go.stuck why:Sem α):=Nv.halt _
theorem Cn.pure(x:α):Cn P (Pure.pure x:Sem α):=fun w y w' e=>by cases e;exact⟨rfl,fun _=>rfl⟩
theorem q18(s:Sem α)(f:α->Sem β)(w:World):(s >>= f).run P w=(s.run P w).andThen fun a w=>(f a).run P w:=Sem.run_bind _ _ _ _
theorem qnh{w w':World}{x:β}(h:(s >>= f).run P w=.ok x w'):∃a w1,s.run P w=.ok a w1/\(f a).run P w1=.ok x w':=by
 rw[q18]at h;cases hs:s.run P w with
 |ok a w1=>rw[hs]at h;exact⟨a,w1,rfl,h⟩
 |halt x w1=>rw[hs]at h;cases h
theorem qwf{w w1:World}{a:α}(h:s.run P w=.ok a w1):(s >>= f).run P w=(f a).run P w1:=by rw[q18,h];rfl
theorem Nv.bnd(h:∀x,Nv P (f x)):Nv P (s >>= f):=fun w x w' e=>by
 obtain⟨a,w1,_,h2⟩:=qnh e;exact h a _ _ _ h2
theorem Cn.bnd(h:Cn P s)(hf:∀x,Cn P (f x)):Cn P (s >>= f):=fun w x w' e=>by
 obtain⟨a,w1,h1,h2⟩:=qnh e;obtain⟨rfl,g1⟩:=h _ _ _ h1;obtain⟨rfl,g2⟩:=hf _ _ _ _ h2;exact⟨rfl,fun w2=>by rw[qwf (g1 w2)];exact g2 w2⟩
theorem Rd.bnd(h:Rd P s)(hf:∀x,Rd P (f x)):Rd P (s >>= f):=fun w x w' e=>by
 obtain⟨a,w1,h1,h2⟩:=qnh e;obtain⟨rfl,g1⟩:=h _ _ _ h1;obtain⟨rfl,g2⟩:=hf _ _ _ _ h2;exact⟨rfl,fun w2 g=>by rw[qwf (g1 w2 g)];exact g2 w2 g⟩
theorem Gr.bnd(h:Gr P s)(hf:∀x,Gr P (f x)):Gr P (s >>= f):=fun w x w' e=>by
 obtain⟨a,w1,h1,h2⟩:=qnh e;exact(h _ _ _ h1).trans (hf _ _ _ _ h2)
theorem Cn.known{a:α}(h:∀w,s.run P w=.ok a w)(hf:Cn P (f a)):Cn P (s >>= f):=fun w x w' e=>by
 rw[qwf (h w)]at e;obtain⟨rfl,g⟩:=hf _ _ _ e;exact⟨rfl,fun w2=>by rw[qwf (h w2)];exact g w2⟩
theorem Cn.program:Cn P (Go.program):=fun w x w' e=>by cases e;exact⟨rfl,fun _=>rfl⟩
theorem Cn.ite{c:Prop}[Decidable c]{s t:Sem α}(h:Cn P s)(k:Cn P t):Cn P (if c then s else t):=by split<;>assumption
end
theorem qzb{p:Program}{w:World}{at_:Addr}{u:TypeId}{k:Addr}{atomic:Bool}(h:w.heap[at_.block]?=none):∀r,w.seen p at_ u k atomic≠.ok r:=by
 intro r hr;unfold World.seen at hr;rw[h]at hr;simp only[bind,Except.bind,pure,Except.pure,throw,throwThe,MonadExceptOf.throw]at hr
 repeat' split at hr
 all_goals first|cases hr|skip
theorem qwx{p:Program}{w w':World}(g:Grown w w'){at_:Addr}{u:TypeId}{k:Addr}{atomic:Bool}{r}(h:w.seen p at_ u k atomic=.ok r):w'.seen p at_ u k atomic=.ok r:=by
 rcases Nat.lt_or_ge at_.block w.heap.size with hb|hb
 ·rw[<- h];unfold World.seen;rw[g.kept _ hb]
 ·exact absurd h (qzb (zi1 hb) r)
theorem q1k{p:Program}{w w':World}(g:Grown w w'){a:Addr}{m:Bool}{r}(h:w.farLoad p a m=.ok r):w'.farLoad p a m=.ok r:=by
 unfold World.farLoad at h ⊢;rcases Nat.lt_or_ge a.block w.heap.size with hb|hb
 ·rw[g.kept _ hb];split at h
  ·rename_i at_ u he;split at h
   ·rename_i r' hv;cases h;have:w'.viewLoad p at_ u a m=.ok r:=by
     rw[<- hv];unfold World.viewLoad at hv ⊢;cases hs:w.seen p at_ u a m with
     |error e=>rw[hs]at hv;cases hv
     |ok q=>rw[qwx g hs]
    simp only[this]
   ·cases h
  ·cases h
 ·rw[zi1 hb]at h;cases h
theorem qxk{w w':World}(g:Grown w w'){a:Addr}{v:Value}(h:w.cell? a=some v):w'.cell? a=some v:=by
 have hb:=Nat.lt_of_not_le fun hn=>by
  unfold World.cell? at h;rw[zi1 hn]at h;cases h
 rw[<- h];unfold World.cell?;rw[g.kept _ hb]
theorem qt1{w w':World}(g:Grown w w'){a:Addr}(h:w.cell? a=none)(hb:a.block<w.heap.size):w'.cell? a=none:=by
 rw[<- h];unfold World.cell?;rw[g.kept _ hb]
variable {α:Type}
theorem Rd.load(a:Addr)(m:Mode):Rd P (Go.load a m):=fun w x w' e=>by
 unfold Go.load at e ⊢;simp only[Sem.run]at e ⊢;split at e
 ·rename_i v hv;cases e;exact⟨rfl,fun w2 g=>by rw[qxk g hv]⟩
 ·rename_i hn;split at e
  ·rename_i v q hf;cases e;refine⟨rfl,fun w2 g=>?_⟩;have hb:a.block<w.heap.size:=Nat.lt_of_not_le fun hb=>by
    unfold World.farLoad at hf;rw[zi1 hb]at hf;cases hf
   rw[qt1 g hn hb,q1k g hf]
  ·cases e
theorem Gr.new(o:Obj):Gr P (newObj o):=fun w x w' e=>by
 cases e;refine⟨by simp,fun b hb=>?_⟩;simp[Array.getElem?_push,Nat.ne_of_lt hb]
theorem Cn.typeInfo(t:TypeId):Cn P (Go.typeInfo t):=by
 unfold Go.typeInfo;refine Cn.bnd Cn.program fun p=>?_;split
 ·exact Cn.pure _
 ·exact(Nv.stuck _).cn
theorem Cn.underlying(t:TypeId):Cn P (Go.underlying t):=by
 unfold Go.underlying;refine Cn.bnd Cn.program fun p=>?_;split
 ·exact Cn.pure _
 ·exact(Nv.stuck _).cn
theorem Cn.sizeOf(t:TypeId):Cn P (Go.sizeOf t):=Cn.bnd (Cn.typeInfo t) fun _=>Cn.pure _
theorem Cn.isAgg(t:TypeId):Cn P (Go.isAgg t):=by
 unfold Go.isAgg;refine Cn.bnd (Cn.underlying t) fun d=>?_
 split<;>exact Cn.pure _
theorem Cn.zeroValue(t:TypeId):Cn P (Go.zeroValue t):=by
 unfold Go.zeroValue;refine Cn.bnd (Cn.typeInfo t) fun d=>?_;split
 ·exact Cn.pure _
 ·exact(Nv.halt _).cn
theorem Cn.sureAddr(v:Value):Cn P (Instr.sureAddr v):=by
 unfold Instr.sureAddr;split
 ·exact Cn.pure _
 ·exact(Nv.stuck _).cn
theorem Rd.loadCellsFrom(a:Addr):∀(n i:Nat) (acc:Array Value),Rd P (Go.loadCellsFrom a i n acc)
 |0,i,acc=>(Cn.pure _).rd
 |n+1,i,acc=>by
  unfold Go.loadCellsFrom;exact Rd.bnd (Rd.load _ _) fun v=>Rd.loadCellsFrom a n (i+1) (acc.push v)
theorem Rd.loadAt(t:TypeId)(v:Value):Rd P (Instr.loadAt t v):=by
 unfold Instr.loadAt Go.loadVar;refine Rd.bnd (Cn.sureAddr v).rd fun a=>Rd.bnd (Cn.isAgg t).rd fun b=>?_;split
 ·refine Rd.bnd (Cn.sizeOf t).rd fun n=>?_;exact Rd.bnd (Rd.loadCellsFrom a n 0 #[]) fun cs=>(Cn.pure _).rd
 ·exact Rd.load _ _
theorem Cn.asIntOf(v:Value):Cn P (Go.asIntOf v):=by
 unfold Go.asIntOf;split
 ·exact Cn.pure _
 ·exact(Nv.halt _).cn
 ·exact(Nv.halt _).cn
theorem Nv.panic(e:RuntimeError):Nv P (Go.runtimePanic e:Sem α):=by
 unfold Go.runtimePanic;refine Nv.bnd fun p=>?_;cases e
 all_goals first
  |exact Nv.halt _
  |exact Nv.bnd fun _=>Nv.bnd fun _=>Nv.halt _
theorem Nv.bounds(k:IntKind)(x y:Int)(c:BoundsCode):Nv P (Go.boundsPanic k x y c:Sem α):=by
 unfold Go.boundsPanic;dsimp only
 split<;>exact Nv.bnd fun _=>Nv.panic _
theorem Cn.fieldAt{t f:Nat}{off s:Nat}{agg:Bool}[h:qan P t f off agg s](v:Value):Cn P (Instr.fieldAt t v f):=by
 obtain⟨fs,fl,h1,h2,h3,h4⟩:=h.d;have hs:=fun w=>qhh (P:=P) (t:=fl.type) w;have h0:=h.s;unfold Instr.fieldAt;refine Cn.known (fun w=>qai h1 w) ?_;simp only[h2];refine Cn.bnd (Cn.sureAddr v) fun a=>Cn.bnd ?_ fun _=>Cn.pure _;unfold fieldPlace;refine Cn.known hs ?_;rw[if_neg h0];exact Cn.pure _
theorem Cn.indexAt(t:TypeId)(x y:Value):Cn P (Instr.indexAt t x y):=by
 unfold Instr.indexAt;refine Cn.bnd (Cn.asIntOf y) fun ki=>Cn.bnd (Cn.underlying t) fun d=>?_;dsimp only;have key:∀(base:Option Addr) (len:Nat) (elem:TypeId),Cn P (do
   let d' <- Go.underlying t
   match base with
   |some a=>
    if 0<=ki.2/\ki.2<len then Pure.pure (Value.pointer (some (a.add (ki.2.toNat*(<- Go.sizeOf elem)))))
    else if (decide (len <= 1) && (match d' with | .array .. => true | _ => false)) = true then unsupported (.noEntry "op/indexAddr.an index out of range at an array of length 0 or 1 (ledger 616)")
    else boundsPanic ki.1 ki.2 len .index
   | none=>boundsPanic ki.1 ki.2 0 .index):=fun base len elem=>by
  refine Cn.bnd (Cn.underlying t) fun d'=>?_;cases base with
  |some a=>exact Cn.ite (Cn.bnd (Cn.sizeOf _) fun _=>Cn.pure _) (Cn.ite (Nv.halt _).cn (Nv.bounds _ _ _ _).cn)
  |none=>exact(Nv.bounds _ _ _ _).cn
 split
 ·exact Cn.bnd (Cn.sureAddr _) fun a=>Cn.known (a:=(some a,_,_)) (fun w=>rfl) (key (some a) _ _)
 ·exact Cn.known (a:=(_,_,_)) (fun w=>rfl) (key _ _ _)
 ·exact Cn.bnd (Nv.stuck _).cn fun r=>key r.1 r.2.1 r.2.2
end Go.Abs
namespace Go.Abs
open Go
variable {P:Program} {Q:Exit->St->Prop} {st:St}
def Val(P:Program)(o:Oper):Prop:=∀(ρ:Operand->Value) w n w',(execOp ρ o).run P w=.ok n w'->∃v,n=.value v
theorem qdd{s:Sem Value}{w w':World}{n:Next}(h:(do let x <- s;Pure.pure (Next.value x):Sem Next).run P w=.ok n w'):∃v,n=.value v:=by
 obtain⟨a,w1,_,h2⟩:=qnh h;cases h2;exact⟨a,rfl⟩
theorem Rd.val{s:Sem Value}(h:Rd P s):Rd P (do let x <- s;Pure.pure (Next.value x):Sem Next):=Rd.bnd h fun _=>(Cn.pure _).rd
theorem Cn.val{s:Sem Value}(h:Cn P s):Cn P (do let x <- s;Pure.pure (Next.value x):Sem Next):=Cn.bnd h fun _=>Cn.pure _
theorem Gr.val{s:Sem Value}(h:Gr P s):Gr P (do let x <- s;Pure.pure (Next.value x):Sem Next):=Gr.bnd h fun _=>(Cn.pure _).gr
theorem qvz(e:TypeId)(cs:Array Value):Gr P (newRow e cs):=Gr.bnd (Gr.new _) fun _=>(Cn.pure _).gr
theorem q4z(e:TypeId)(v:Value):Gr P (Instr.alloc e true v):=by
 unfold Instr.alloc;refine Gr.bnd (Cn.zeroValue e).gr fun z=>?_;split
 ·rename_i h;cases h
 ·exact Gr.bnd (qvz _ _) fun _=>(Cn.pure _).gr
theorem zcg(e:TypeId)(v:Value):Gr P (Instr.box e v):=Gr.bnd (qvz _ _) fun _=>(Cn.pure _).gr
theorem q01(n:Nat):Gr P (askRoom n):=by
 unfold askRoom;split
 ·intro w x w' e;cases e;exact Grown.refl _
 ·exact(Cn.pure _).gr
theorem qr8(q:Question):Gr P (choose q):=fun w x w' e=>by
 unfold choose at e;simp only[Sem.run]at e;split at e<;>(cases e;exact⟨zg3 _,fun _ _=>rfl⟩)
theorem q4y(t:TypeId)(n:Nat)(ps:Array (Nat×Value)):Gr P (Instr.buildSlice t n ps):=by
 unfold Instr.buildSlice
 repeat' first
  |exact(Cn.pure _).gr
  |exact(Nv.halt _).cn.gr
  |exact(Nv.panic _).cn.gr
  |exact qvz _ _
  |exact q01 _
  |exact(Cn.underlying _).gr
  |exact(Cn.sizeOf _).gr
  |exact(Cn.zeroValue _).gr
  |exact(Cn.typeInfo _).gr
  |exact(Cn.asIntOf _).gr
  |exact qr8 _
  |refine Gr.bnd ?_ fun _=>?_
  |split
  |dsimp only
theorem q8x(t:TypeId)(x y:Value):Gr P (Instr.makeSlice t x y):=by
 unfold Instr.makeSlice asInt
 repeat' first
  |exact(Cn.pure _).gr
  |exact(Nv.halt _).cn.gr
  |exact(Nv.panic _).cn.gr
  |exact qvz _ _
  |exact q01 _
  |exact(Cn.underlying _).gr
  |exact(Cn.sizeOf _).gr
  |exact(Cn.zeroValue _).gr
  |exact(Cn.typeInfo _).gr
  |exact(Cn.asIntOf _).gr
  |exact qr8 _
  |refine Gr.bnd ?_ fun _=>?_
  |split
  |dsimp only
def q09(P:Program)[Tys P](t f:Nat):Bool:=(nth (Tys.c P t).fields f).isSome
theorem qqd[T:Tys P]{t f:Nat}(h:q09 P t f=true)(v:Value):Cn P (Instr.fieldAt t v f):=by
 unfold q09 at h;cases hn:nth (Tys.c P t).fields f with
 |none=>rw[hn]at h;cases h
 |some x=>
  obtain⟨off,a,s⟩:=x;have:=(T.ok t).fld f off a s hn;exact Cn.fieldAt v
theorem Cn.asAgg(v:Value):Cn P (Go.asAgg v):=by
 unfold Go.asAgg;split
 ·exact Cn.pure _
 ·exact(Nv.stuck _).cn
theorem Cn.asBool(v:Value):Cn P (Go.asBool v):=by
 unfold Go.asBool;split
 ·exact Cn.pure _
 ·exact(Nv.stuck _).cn
theorem Cn.part(t:TypeId)(cs:Array Value)(n:Nat):Cn P (Go.part t cs n):=by
 unfold Go.part;refine Cn.bnd (Cn.isAgg t) fun b=>?_;split
 ·exact Cn.bnd (Cn.sizeOf t) fun _=>Cn.pure _
 ·split
  ·exact Cn.pure _
  ·exact(Nv.stuck _).cn
theorem Cn.followBlind:∀(l:List FieldStep) (t:TypeId) (x:Option Value),Cn P (Go.followBlind l t x)
 |[],t,x=>Cn.pure _
 |s::rest,t,x=>by
  unfold Go.followBlind
  repeat' first
   |exact Cn.pure _
   |exact(Nv.stuck _).cn
   |exact Cn.underlying _
   |exact Cn.part _ _ _
   |exact Cn.followBlind rest _ _
   |refine Cn.bnd ?_ fun _=>?_
   |split
   |dsimp only
theorem Cn.nilAhead:∀(n:Nat) (t:TypeId) (v:Value) (s:String),Cn P (Go.nilAhead n t v s)
 |0,t,v,s=>Cn.pure _
 |n+1,t,v,s=>by
  unfold Go.nilAhead
  repeat' first
   |exact Cn.pure _
   |exact(Nv.stuck _).cn
   |exact Cn.underlying _
   |exact Cn.typeInfo _
   |exact Cn.followBlind _ _ _
   |exact Cn.nilAhead n _ _ _
   |refine Cn.bnd ?_ fun _=>?_
   |split
   |dsimp only
theorem Cn.field(t:TypeId)(v:Value)(f:Nat):Cn P (Instr.field t v f):=by
 unfold Instr.field
 repeat' first
  |exact Cn.pure _
  |exact(Nv.stuck _).cn
  |exact Cn.underlying _
  |exact Cn.part _ _ _
  |exact Cn.asAgg _
  |refine Cn.bnd ?_ fun _=>?_
  |split
  |dsimp only
theorem Cn.index(t:TypeId)(x y:Value):Cn P (Instr.index t x y):=by
 unfold Instr.index
 repeat' first
  |exact Cn.pure _
  |exact(Nv.stuck _).cn
  |exact(Nv.bounds _ _ _ _).cn
  |exact Cn.underlying _
  |exact Cn.part _ _ _
  |exact Cn.asIntOf _
  |exact Cn.sizeOf _
  |refine Cn.bnd ?_ fun _=>?_
  |split
  |dsimp only
theorem Cn.extract(v:Value)(n:Nat):Cn P (Instr.extract v n):=by
 unfold Instr.extract
 repeat' first
  |exact Cn.pure _
  |exact(Nv.stuck _).cn
  |split
def Vl(P:Program)(s:Sem Next):Prop:=∀w n w',s.run P w=.ok n w'->∃v,n=.value v
theorem Vl.pure(v:Value):Vl P (Pure.pure (Next.value v)):=fun w n w' e=>by cases e;exact⟨_,rfl⟩
theorem Vl.bnd{α:Type}{s:Sem α}{f:α->Sem Next}(h:∀x,Vl P (f x)):Vl P (s >>= f):=fun w n w' e=>by
 obtain⟨a,w1,_,h2⟩:=qnh e;exact h a _ _ _ h2
theorem Nv.vl{s:Sem Next}(h:Nv P s):Vl P s:=fun w n w' e=>absurd e (h _ _ _)
def cnX:Op->Bool
 |.move _=>true
 |.makeFunc _ _ _=>true
 |.indexAddr _ _ _=>true
 |.nilCheck _=>true
 |.field _ _ _=>true
 |.index _ _ _=>true
 |.extract _ _=>true
 |.pick _ _ _=>true
 |_=>false
theorem qo1{o:Oper}(h:cnX o.op=true):Val P o/\∀ρ,Cn P (execOp ρ o):=by
 obtain⟨dst,op,type,pos,after,guard⟩:=o
 cases op<;>simp only[cnX]at h<;>first
  |(cases h;done)
  |skip
 case move x=>exact⟨fun ρ w n w' e=>by cases e;exact⟨_,rfl⟩,fun ρ=>Cn.pure _⟩
 case makeFunc f a b=>exact⟨fun ρ w n w' h=>qdd h,fun ρ=>Cn.val (Cn.pure _)⟩
 case indexAddr t x y=>exact⟨fun ρ w n w' h=>qdd h,fun ρ=>Cn.val (Cn.indexAt _ _ _)⟩
 case field t x y=>exact⟨fun ρ w n w' h=>qdd h,fun ρ=>Cn.val (Cn.field _ _ _)⟩
 case index t x y=>exact⟨fun ρ w n w' h=>qdd h,fun ρ=>Cn.val (Cn.index _ _ _)⟩
 case extract x y=>exact⟨fun ρ w n w' h=>qdd h,fun ρ=>Cn.val (Cn.extract _ _)⟩
 case pick c x y=>
  refine⟨fun ρ w n w' h=>?_,fun ρ=>Cn.bnd (Cn.asBool _) fun _=>Cn.pure _⟩;obtain⟨a,w1,_,h2⟩:=qnh h;cases h2;exact⟨_,rfl⟩
 case nilCheck x=>
  have key:∀ρ,Cn P (execOp ρ ⟨dst,.nilCheck x,type,pos,after,guard⟩):=fun ρ=>by
   simp only[execOp]
   repeat' first
    |exact Cn.pure _
    |exact(Nv.stuck _).cn
    |exact(Nv.halt _).cn
    |exact(Nv.panic _).cn
    |exact Cn.nilAhead _ _ _ _
    |exact Cn.program
    |refine Cn.bnd ?_ fun _=>?_
    |split
    |dsimp only
  refine⟨fun ρ=>?_,key⟩;show Vl P _;simp only[execOp]
  repeat' first
   |exact Vl.pure _
   |exact(Nv.panic _).vl
   |exact(Nv.halt _).vl
   |refine Vl.bnd fun _=>?_
   |split
   |dsimp only
def q0p(P:Program)[Tys P](c:Call):Bool:=match c.callee with
 | .builtin .len=>(match c.argTypes.toList with
  | [t]=>(match(Tys.c P t).sl with
   |some _=>true
   | none=>false)
  | _=>false)
 |_=>false
theorem qhl[T:Tys P]{c:Call}{d:Option Tmp}{ty:TypeId}{pos:String}{af:Array Go.Edge}{g:Option (Nat×Bool)}(h:q0p P c=true):Val P ⟨d,.call c,ty,pos,af,g⟩/\∀ρ,Cn P (execOp ρ ⟨d,.call c,ty,pos,af,g⟩):=by
 obtain⟨cal,args,ats⟩:=c;unfold q0p at h;split at h
 ·rename_i hc;simp only at hc;subst hc;split at h
  ·rename_i t ht;split at h
   ·rename_i e he;obtain⟨e,s_,b_⟩:=e;have hts:=((T.ok t).sl _ _ _ he).d;obtain rfl:ats=#[t]:=by
     cases ats;simp only at ht;rw[ht]
    have key:∀ρ,execOp ρ ⟨d,.call ⟨.builtin .len,args,#[t]⟩,ty,pos,af,g⟩=(do pure (Next.value (<- Builtin.len_ #[t] ty (args.map ρ)))):=fun ρ=>by
     simp only[execOp,resolve,invoke,builtin];rfl
    have hl:∀ρ,Cn P (Builtin.len_ #[t] ty (args.map ρ)):=fun ρ=>by
     unfold Builtin.len_;split
     ·rename_i t' x hx;obtain rfl:t'=t:=by
       have:=congrArg Prod.fst hx;simpa using this.symm
      refine Cn.known (qai hts) ?_
      repeat' first
       |exact Cn.pure _
       |exact(Nv.stuck _).cn
       |split
      all_goals first|(cases ‹TypeDesc.slice _=_›;done)|skip
     ·exact(Nv.stuck _).cn
    refine⟨fun ρ w n w' h=>?_,fun ρ=>?_⟩
    ·rw[key]at h;exact qdd h
    ·rw[key];exact Cn.val (hl ρ)
   ·cases h
  ·cases h
 ·cases h
def grB(P:Program)[Tys P]:Op->Bool
 |.move _=>true
 |.assign _=>true
 |.load _ _=>true
 |.alloc _=>true
 |.box _ _=>true
 |.buildSlice _ _ _=>true
 |.makeSlice _ _ _=>true
 |.makeFunc _ _ _=>true
 |.indexAddr _ _ _=>true
 |.fieldAddr t _ f=>q09 P t f
 |.call c=>q0p P c
 |op=>cnX op
theorem zch[T:Tys P]{o:Oper}(h:grB P o.op=true):Val P o/\∀ρ,Gr P (execOp ρ o):=by
 obtain⟨dst,op,type,pos,after,guard⟩:=o
 cases op<;>simp only[grB]at h<;>first
  |(simp only[cnX]at h;cases h;done)
  |skip
 all_goals first
  |exact⟨(qo1 (P:=P) (o:=⟨dst,_,type,pos,after,guard⟩) h).1,fun ρ=>((qo1 (P:=P) (o:=⟨dst,_,type,pos,after,guard⟩) h).2 ρ).gr⟩
  |skip
 case move x=>exact⟨fun ρ w n w' e=>by cases e;exact⟨_,rfl⟩,fun ρ=>(Cn.pure _).gr⟩
 case assign x=>exact⟨fun ρ w n w' e=>by cases e;exact⟨_,rfl⟩,fun ρ=>(Cn.pure _).gr⟩
 case alloc e=>exact⟨fun ρ w n w' h=>qdd h,fun ρ=>(q4z _ _).val⟩
 case box e x=>exact⟨fun ρ w n w' h=>qdd h,fun ρ=>(zcg _ _).val⟩
 case buildSlice t n ps=>exact⟨fun ρ w n w' h=>qdd h,fun ρ=>(q4y _ _ _).val⟩
 case load t x=>exact⟨fun ρ w n w' h=>qdd h,fun ρ=>(Rd.loadAt _ _).val.gr⟩
 case makeFunc f a b=>exact⟨fun ρ w n w' h=>qdd h,fun ρ=>(Cn.val (Cn.pure _)).gr⟩
 case makeSlice t x y=>exact⟨fun ρ w n w' h=>qdd h,fun ρ=>(q8x _ _ _).val⟩
 case call c=>exact⟨(qhl h).1,fun ρ=>((qhl h).2 ρ).gr⟩
 case fieldAddr t x f=>exact⟨fun ρ w n w' h=>qdd h,fun ρ=>(Cn.val (qqd h _)).gr⟩
 case indexAddr t x y=>exact⟨fun ρ w n w' h=>qdd h,fun ρ=>(Cn.val (Cn.indexAt _ _ _)).gr⟩
def rdB(P:Program)[Tys P]:Op->Bool
 |.move _=>true
 |.load _ _=>true
 |.makeFunc _ _ _=>true
 |.indexAddr _ _ _=>true
 |.fieldAddr t _ f=>q09 P t f
 |.call c=>q0p P c
 |op=>cnX op
theorem zbv[T:Tys P]{o:Oper}(h:rdB P o.op=true):Val P o/\∀ρ,Rd P (execOp ρ o):=by
 obtain⟨dst,op,type,pos,after,guard⟩:=o
 cases op<;>simp only[rdB]at h<;>first
  |(simp only[cnX]at h;cases h;done)
  |skip
 all_goals first
  |exact⟨(qo1 (P:=P) (o:=⟨dst,_,type,pos,after,guard⟩) h).1,fun ρ=>((qo1 (P:=P) (o:=⟨dst,_,type,pos,after,guard⟩) h).2 ρ).rd⟩
  |skip
 case move x=>exact⟨fun ρ w n w' e=>by cases e;exact⟨_,rfl⟩,fun ρ=>(Cn.pure _).rd⟩
 case load t x=>exact⟨fun ρ w n w' h=>qdd h,fun ρ=>(Rd.loadAt _ _).val⟩
 case makeFunc f a b=>exact⟨fun ρ w n w' h=>qdd h,fun ρ=>(Cn.val (Cn.pure _)).rd⟩
 case call c=>exact⟨(qhl h).1,fun ρ=>((qhl h).2 ρ).rd⟩
 case fieldAddr t x f=>exact⟨fun ρ w n w' h=>qdd h,fun ρ=>(Cn.val (qqd h _)).rd⟩
 case indexAddr t x y=>exact⟨fun ρ w n w' h=>qdd h,fun ρ=>(Cn.val (Cn.indexAt _ _ _)).rd⟩
def cnB(P:Program)[Tys P](nt:Operand->Bool):Op->Bool
 |.move _=>true
 |.makeFunc _ _ _=>true
 |.indexAddr _ _ _=>true
 |.fieldAddr t _ f=>q09 P t f
 |.call c=>q0p P c
 | .binOp o _ x y _=>(match o with
  |.add=>true
  |.sub=>true
  |.mul=>true
  | _=>false)&&(nt x&&nt y)
 |op=>cnX op
theorem zcz[T:Tys P]{o:Oper}{nt:Operand->Bool}{ρ:Operand->Value}(hn:∀x,nt x=true->∃k n,ρ x=.int k n)(h:cnB P nt o.op=true):Val P o/\Cn P (execOp ρ o):=by
 obtain⟨dst,op,type,pos,after,guard⟩:=o
 cases op<;>simp only[cnB]at h<;>first
  |(simp only[cnX]at h;cases h;done)
  |skip
 all_goals first
  |exact⟨(qo1 (P:=P) (o:=⟨dst,_,type,pos,after,guard⟩) h).1,(qo1 (P:=P) (o:=⟨dst,_,type,pos,after,guard⟩) h).2 ρ⟩
  |skip
 case move x=>exact⟨fun ρ w n w' e=>by cases e;exact⟨_,rfl⟩,Cn.pure _⟩
 case makeFunc f a b=>exact⟨fun ρ w n w' h=>qdd h,Cn.val (Cn.pure _)⟩
 case call c=>exact⟨(qhl h).1,(qhl h).2 ρ⟩
 case fieldAddr t x f=>exact⟨fun ρ w n w' h=>qdd h,Cn.val (qqd h _)⟩
 case indexAddr t x y=>exact⟨fun ρ w n w' h=>qdd h,Cn.val (Cn.indexAt _ _ _)⟩
 case binOp o tx x y ty=>
  refine⟨fun ρ w n w' h=>qdd h,Cn.val ?_⟩;simp only[zgz]at h;obtain⟨k,n,hx⟩:=hn x h.2.1;obtain⟨k',n',hy⟩:=hn y h.2.2;rw[hx,hy];have hc:∀o,(o=.add\/o=.sub\/o=.mul)->Cn P (do eqGuard o tx x y (.int k n) (.int k' n');binOp o tx (.int k n) (.int k' n')):=by
   rintro o (rfl|rfl|rfl) <;>
   ·refine Cn.bnd ?_ fun _=>?_
    ·unfold eqGuard;exact Cn.pure _
    ·unfold binOp;dsimp only;split
     ·exact(Nv.halt _).cn
     ·exact Cn.pure _
  exact hc o (by
   have:=h.1
   cases o<;>first|exact .inl rfl|exact .inr (.inl rfl)|exact .inr (.inr rfl)|cases this)
end Go.Abs
