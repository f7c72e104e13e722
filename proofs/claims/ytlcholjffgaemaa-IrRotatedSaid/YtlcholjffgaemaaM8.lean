/-
Texts of the proof, part 8: Rq Rs Rt Ru Rw T1 T2 T3 T4 T5 T6 T7 T8 X1 X2 X3 Ua Ub Uc.
No statement of the program is proved here.
-/
import Derived.Test.YtlcholjffgaemaaM7
import Derived.Laws.BitsAllLaws
set_option linter.unusedVariables false
set_option linter.unusedSectionVars false
set_option linter.unusedSimpArgs false
set_option maxHeartbeats 1000000
namespace Go.Abs
open Go Go.Proofs
noncomputable section
theorem getD_set_true{l:List Bool}{i j:Nat}(h:(l.set i true).getD j false=true):j=i\/l.getD j false=true:=by
 by_cases e:j=i
 ·exact .inl e
 ·right
  rw[zi5,List.getElem?_set,if_neg (fun h=>e h.symm),<- zi5]at h;exact h
def Kn(k:List Bool)(ks:List Int):Prop:=∀v:Int,0<=v->k.getD v.toNat false=true->v∈ks
theorem Kn.set{k:List Bool}{ks:List Int}(h:Kn k ks){v:Int}(h0:0<=v):Kn (k.set v.toNat true) (ks++[v]):=fun u hu hk=>by
 rcases getD_set_true hk with e|e
 ·have:u=v:=by omega
  subst this;simp
 ·exact zjs _ (h u hu e)
theorem q02(f:Fn):∀(l:List Int) (s s':DK) (ks:List Int),Kn s.2 ks->qch (Sp.qcy f) l s=some s'->Kn s'.2 (ks++l)
 |[],s,s',ks,h,e=>by
  injection e with e;subst e;simpa using h
 |v::l,s,s',ks,h,e=>by
  simp only[qch]at e;cases hg:Sp.qcy f s v with
  |none=>rw[hg]at e;cases e
  |some s1=>
   rw[hg]at e;unfold Sp.qcy at hg;split at hg
   ·rename_i hc;injection hg with hg;subst hg;have:=q02 f l _ s' (ks++[v]) (h.set (within_iff.1 hc.1).1) e;simpa using this
   ·cases hg
theorem qpo{f:Fn}{l:List Int}{k:List Bool}{ks:List Int}(h:Kn k ks)(hu:Sp.used f l k=true):∀v∈l,v∈ks:=fun v hv=>by
 simp only[Sp.used,zjm,zi4]at hu;have:=hu v hv;exact h v (within_iff.1 this.1).1 this.2
theorem quc(f:Fn):∀(l:List qat) (s s':DK) (ks:List Int),Kn s.2 ks->qch (Sp.qb5 f) l s=some s'->qxe l ks/\Kn s'.2 (ks++dl l)
 |[],s,s',ks,h,e=>by
  injection e with e;subst e;exact⟨trivial,by simpa[dl]using h⟩
 |x::l,s,s',ks,h,e=>by
  simp only[qch]at e;cases hg:Sp.qb5 f s x with
  |none=>rw[hg]at e;cases e
  |some s1=>
   rw[hg]at e;have hn:=qeo hg;unfold Sp.qb5 at hg;split at hg
   ·rename_i hc;injection hg with hg;subst hg;have hu:=qpo h hc.2.1;cases hx:Sp.named x.op with
    |true=>
     have hr:Sp.result x.op=true:=by rw[<- hn.1];exact hx
     have hd:=hc.2.2.1;simp only[Sp.qfe,hr,if_true,zi4]at hd;have hk:Kn (Sp.mark s x).2 (ks++[x.dest]):=by
      unfold Sp.mark;rw[if_pos hr];exact h.set (within_iff.1 hd.1).1
     obtain⟨r1,r2⟩:=quc f l _ s' _ hk e;refine⟨⟨hu,by rw[if_pos hx];exact r1⟩,?_⟩
     rw[qf4 hx];simpa using r2
    |false=>
     have hr:Sp.result x.op=false:=by rw[<- hn.1];exact hx
     have hk:Kn (Sp.mark s x).2 ks:=by
      unfold Sp.mark;rw[if_neg (by simp[hr])];exact h
     obtain⟨r1,r2⟩:=quc f l _ s' _ hk e;refine⟨⟨hu,by rw[if_neg (by simp[hx])];exact r1⟩,?_⟩
     rw[qf5 hx];exact r2
   ·cases hg
theorem q85{f:Fn}{t:Term}{k:List Bool}{ks:List Int}(h:Kn k ks)(ht:Sp.qdm f t k=true):(t.cond=-1\/t.cond∈ks)/\(∀v∈t.qax,v∈ks)/\∀e∈t.to,∀v∈e.args,v∈ks:=by
 simp only[Sp.qdm,zi4,zj7,decide_eq_true_eq,zjm]at ht;obtain⟨⟨⟨hk,_,hr⟩,hc⟩,he⟩:=ht;refine⟨?_,?_,fun e hm v hv=>?_⟩
 ·unfold Sp.qnh at hc;split at hc
  ·simp only[zi4]at hc;exact .inr (qpo h hc.1 _ (by simp))
  ·exact .inl (of_decide_eq_true hc)
 ·unfold Sp.kindOk at hk;split at hk
  ·rename_i h12;have:t.qax=[]:=by
    rcases hr with h3|h3
    ·omega
    ·exact zla (by omega)
   rw[this];intro v hv;cases hv
  ·split at hk
   ·simp only[zi4]at hk;exact qpo h hk.1.2
   ·cases hk
 ·have:=he e hm;simp only[Sp.qc0,zi4]at this;exact qpo h this.1.2 v hv
theorem q3f{f:Fn}{d d':List Bool}{b:Block}(h:Sp.qcb f d b=some d'):zb3 b:=by
 have hd:=(qmm h).2;simp only[Sp.qcb]at h;split at h
 ·split at h
  ·rename_i s1 h1;split at h
   ·rename_i s2 h2;split at h
    ·rename_i ht;have k0:Kn (List.replicate f.qaa.length false) []:=fun v _ hk=>by
      rw[zi5,List.getElem?_replicate]at hk;split at hk<;>cases hk
     have k1:=q02 f b.params _ s1 [] k0 h1;obtain⟨u,k2⟩:=quc f b.insts s1 s2 _ k1 h2;simp only[zj8]at u k2;obtain⟨t1,t2,t3⟩:=q85 k2 ht;exact⟨u,t1,t2,t3,hd⟩
    ·cases h
   ·cases h
  ·cases h
 ·cases h
theorem qlv{f:Fn}(h:Sp.valid f=true):∀b∈f.blocks,∃d d',Sp.qcb f d b=some d':=fun b hb=>by
 simp only[Sp.valid,zi4]at h;obtain⟨d,hd⟩:=Option.isSome_iff_exists.1 h.2;exact qe4 _ _ _ hd b hb
theorem qcx{f:Fn}{i:Nat}(hi:i<f.blocks.length):f.blocks.getD i Block.z∈f.blocks:=by
 rw[zi5,zjc hi];exact zj1 hi
theorem qui{g:Block->List Int}:∀(L:List Block),(L.flatMap g).Nodup->(∀i,i<L.length->(g (L.getD i Block.z)).Nodup)/\∀i j,i<L.length->j<L.length->i≠j->∀v,v∈g (L.getD i Block.z)->v∈g (L.getD j Block.z)->False
 |[],_=>⟨fun i h=>absurd h (zjj _),fun i j h=>absurd h (zjj _)⟩
 |b::L,h=>by
  rw[List.flatMap_cons]at h;obtain⟨n1,n2,n3⟩:=zj0.1 h;obtain⟨k1,k2⟩:=qui L n2;have hm:∀i,i<L.length->∀v,v∈g (L.getD i Block.z)->v∈L.flatMap g:=fun i hi v hv=>zks.2 ⟨_,by
   rw[zi5,zjc hi];exact zj1 hi,hv⟩
  refine⟨fun i hi=>?_,fun i j hi hj hne v h1 h2=>?_⟩
  ·cases i with
   |zero=>exact n1
   |succ i=>exact k1 i (by simpa using hi)
  ·cases i with
   |zero=>
    cases j with
    |zero=>exact hne rfl
    |succ j=>exact n3 v h1 v (hm j (by simpa using hj) v h2) rfl
   |succ i=>
    cases j with
    |zero=>exact n3 v h2 v (hm i (by simpa using hi) v h1) rfl
    |succ j=>exact k2 i j (by simpa using hi) (by simpa using hj) (by omega) v h1 h2
theorem qne(f:Fn)(h:(f.blocks.flatMap Sp.qco).Nodup):∀l:List Int,l.Nodup->(∀b∈l,0<=b/\b<f.blocks.length)->(qcc f l).Nodup
 |[],_,_=>by simp[qcc]
 |b::l,hn,hr=>by
  obtain⟨n1,n2⟩:=zj5.1 hn;have hb:=hr b (zjd ..);obtain⟨k1,k2⟩:=qui f.blocks h;have e1:qcc f (b::l)=Sp.qco (f.blocks.getD b.toNat Block.z)++qcc f l:=by simp[qcc]
  rw[e1];refine zj0.2 ⟨k1 b.toNat (by omega),qne f h l n2 (fun c hc=>hr c (zjk _ hc)),fun v hv u hu e=>?_⟩;subst e;obtain⟨c,hc,hcv⟩:=zks.1 hu;have hc2:=hr c (zjk _ hc);exact k2 b.toNat c.toNat (by omega) (by omega) (fun e=>n1 (by rw[show b=c by omega];exact hc)) v hv hcv
theorem qev{f:Fn}(h:Sp.valid f=true):VOk f:=by
 have ho:=qes f;have hd:=qeq h;refine⟨fun i hi=>?_,fun i hi=>(qk7 h _ (qcx hi)).2,qne f hd.1 _ ho.2 ho.1,fun v hv=>?_⟩
 ·obtain⟨d,d',hb⟩:=qlv h _ (qcx hi);exact q3f hb
 ·obtain⟨b,hb,hbv⟩:=zks.1 hv;have:=ho.1 b hb;exact hd.2.1 v (zks.2 ⟨_,qcx (by omega),hbv⟩)
end
end Go.Abs
namespace Go.Abs
open Go Go.Proofs
noncomputable section
theorem q3m(op:Int):Sp.arity op<=3:=by
 unfold Sp.arity
 repeat' split
 all_goals omega
theorem q6p{f:Fn}{e:Edge}{k:List Bool}(h:Sp.qc0 f e k=true):((f.blocks.getD e.block.toNat Block.z).params.length:Int)=e.args.length/\0<=e.block/\e.block<f.blocks.length:=by
 unfold Sp.qc0 at h;simp only[zi4,zjo,decide_eq_false_iff_not,decide_eq_true_eq]at h;exact⟨h.2.1,by omega,by omega⟩
theorem q70{f:Fn}(h:Sp.valid f=true){i:Nat}(hi:i<f.blocks.length):(f.blocks.getD i Block.z).params.length<=f.qaa.length:=by
 have hd:=qeq h;have k:=(qui f.blocks hd.1).1 i hi;have k1:(f.blocks.getD i Block.z).params.Nodup:=(zj0.1 (by rw[<- qh1];exact k)).1
 have hr:∀v∈(f.blocks.getD i Block.z).params,0<=v/\v<(f.qaa.length:Int):=fun v hv=>hd.2.1 v (zks.2 ⟨_,qcx hi,zjs _ hv⟩);have:∀(n:Nat) (l:List Int),l.Nodup->(∀v∈l,0<=v/\v<(n:Int))->l.length<=n:=by
  intro n
  induction n with
  |zero=>
   intro l _ hl;cases l with
   |nil=>exact zi7 _
   |cons v l=>have:=hl v (zjd ..);omega
  |succ n ih=>
   intro l hn hl;have e:=ih (l.filter fun v=>!decide (v=(n:Int))) (hn.filter _) (fun v hv=>by
    obtain⟨h1,h2⟩:=zkn.1 hv;have:=hl v h1;simp at h2
    omega)
   have h2:∀(l:List Int),l.Nodup->l.length<=(l.filter fun v=>!decide (v=(n:Int))).length+1:=by
    intro l
    induction l with
    |nil=>intro _;simp
    |cons v l ih2=>
     intro hn;obtain⟨n1,n2⟩:=zj5.1 hn;by_cases e:v=(n:Int)
     ·subst e;have:(l.filter fun v=>!decide (v=(n:Int)))=l:=List.filter_eq_self.2 fun u hu=>by
       have:u≠(n:Int):=fun e=>n1 (e▸hu);simp[this]
      rw[List.filter_cons_of_neg (by simp),this];simp
     ·rw[List.filter_cons_of_pos (by simp[e])];have:=ih2 n2;simp only[zi9];omega
   have:=h2 l hn;omega
 exact this _ _ k1 hr
theorem q30{f:Fn}(h:Sp.valid f=true)(hw:f.qaa.length<=65536)(hrt:f.qax.length<=64){i:Nat}(hi:i<f.blocks.length):SmB (f.blocks.getD i Block.z):=by
 have hp:=q70 h hi;obtain⟨d,d',hb⟩:=qlv h _ (qcx hi);generalize hB:f.blocks.getD i Block.z=B at hb hp ⊢;have hto:=(qk7 h B (hB▸qcx hi)).1;simp only[Sp.qcb]at hb;split at hb
 ·rename_i hl;split at hb
  ·rename_i s1 h1;split at hb
   ·rename_i s2 h2;split at hb
    ·rename_i ht;have hins:B.insts.length<=4096:=by
      unfold Sp.qn6 at hl;simp only[zi4,zjo,decide_eq_false_iff_not]at hl;omega
     simp only[Sp.qdm,zi4,zj7,decide_eq_true_eq,zjm]at ht;obtain⟨⟨⟨hk,_,hr⟩,hc⟩,he⟩:=ht;refine⟨by omega,by omega,by omega,?_,fun x hx=>?_,fun e hm=>?_⟩
     ·unfold Sp.kindOk at hk;split at hk
      ·rcases hr with h3|h3<;>omega
      ·split at hk
       ·simp only[zi4,decide_eq_true_eq]at hk;omega
       ·cases hk
     ·obtain⟨t1,t2,hx2⟩:=qe4 _ _ _ h2 x hx;unfold Sp.qb5 at hx2;split at hx2
      ·rename_i hc;have:=q3m x.op;omega
      ·cases hx2
     ·have k:=q6p (he e hm);have:=q70 h (i:=e.block.toNat) (by omega);omega
    ·cases hb
   ·cases hb
  ·cases hb
 ·cases hb
theorem qep{f:Fn}(h:Sp.valid f=true):f.qaa.length<=65536/\f.qax.length<=64/\0<f.blocks.length/\f.blocks.length<=1024:=by
 simp only[Sp.valid,Sp.qm1,Sp.qaa,zi4,zjo,decide_eq_false_iff_not,decide_eq_true_eq]at h;omega
theorem qpn{f:Fn}(hf:f.ok)(h:Sp.valid f=true):Rr f:=by
 obtain⟨h1,h2,h3,h4⟩:=qep h;have ho:=qes f;have hl:=qr3 f;have hd:=qeq h;have hdef:∀i,i<f.blocks.length->∀v∈Sp.qco (f.blocks.getD i Block.z),0<=v/\v<(f.qaa.length:Int):=fun i hi v hv=>hd.2.1 v (zks.2 ⟨_,qcx hi,hv⟩);refine⟨⟨hf,by omega,by omega,fun i hi=>q30 h h1 h2 hi,ho.1,ho.2,by omega⟩,fun i hi k hk=>?_,h3,fun i hi=>?_⟩
 ·refine(qk7 h _ (qcx hi)).2 _ ?_;have mem:∀T:List Edge,k<T.length->T.getD k Edge.z∈T:=fun T hk=>by
   rw[zi5,zjc hk];exact zj1 hk
  exact mem _ hk
 ·have hu:=(qev h).use i hi;have hdi:=hdef i hi;refine⟨fun v hv=>hdi v (zjs _ hv),fun x hx=>?_,fun x hx v hv=>hdi v (qg4 _ _ hu.is x hx v hv),?_,fun v hv=>hdi v (hu.rs v hv),(qk7 h _ (qcx hi)).2,fun e he v hv=>hdi v (hu.es e he v hv)⟩
  ·cases hn:Sp.named x.op with
   |true=>exact(hdi _ (zkb _ (qsw hx hn))).2
   |false=>
    have:=hu.ds x hx hn;omega
  ·rcases hu.cd with e|e
   ·omega
   ·exact(hdi _ e).2
end
end Go.Abs
namespace Go.Abs
open Go Go.Proofs
noncomputable section
theorem q22(f:Fn):(Sp.canon f).blocks.length=(Sp.order f).length:=by simp[Sp.canon]
end
end Go.Abs
namespace Go.Abs
open Go Go.Proofs
noncomputable section
theorem q2r(r:Int->Int):∀l:List qat,dl (l.map (reI r))=(dl l).map r
 |[]=>rfl
 |x::l=>by
  rw[zjl];cases hx:Sp.named x.op with
  |true=>
   rw[qf4 (x:=reI r x) hx,qf4 hx,zjl,q2r r l];simp[reI,hx]
  |false=>rw[qf5 (x:=reI r x) hx,qf5 hx,q2r r l]
end
end Go.Abs
namespace Go.Abs
open Go Go.Proofs
noncomputable section
theorem filter_one(n:Int):∀l:List Int,l.Nodup->l.length<=(l.filter fun v=>!decide (v=n)).length+1
 |[],_=>by simp
 |v::l,hn=>by
  obtain⟨n1,n2⟩:=zj5.1 hn;by_cases e:v=n
  ·subst e;have:(l.filter fun u=>!decide (u=v))=l:=List.filter_eq_self.2 fun u hu=>by
    have:u≠v:=fun e=>n1 (e▸hu);simp[this]
   rw[List.filter_cons_of_neg (by simp),this];simp
  ·rw[List.filter_cons_of_pos (by simp[e])];have:=filter_one n l n2;simp only[zi9];omega
theorem qv3:∀(n:Nat) (l:List Int),l.Nodup->(∀v∈l,0<=v/\v<(n:Int))->l.length<=n
 |0,l,_,hl=>by
  cases l with
  |nil=>exact zi7 _
  |cons v l=>have:=hl v (zjd ..);omega
 |n+1,l,hn,hl=>by
  have e:=qv3 n (l.filter fun v=>!decide (v=(n:Int))) (hn.filter _) (fun v hv=>by
   obtain⟨h1,h2⟩:=zkn.1 hv;have:=hl v h1;simp at h2
   omega)
  have:=filter_one n l hn;omega
theorem qwi(l:List Int)(v:Int) : -1<=Sp.index l v/\Sp.index l v<=l.length:=by
 by_cases h:v∈l
 ·unfold Sp.index;cases hf:qhm (fun i=>decide (v=l.getD i 0)) l.length 0 with
  |none=>simp only[qdk];omega
  |some i=>
   have:=qf3 hf;simp only[qdk];omega
 ·rw[q6c h];omega
theorem All.map{α β:Type}{k:Nat}{p:α->Prop}{q:β->Prop}{g:α->β}{l:List α}(h:All k p l)(hg:∀a∈l,p a->q (g a)):All k q (l.map g):=
 ⟨by rw[zje];exact h.1,fun b hb=>by
  obtain⟨a,ha,rfl⟩:=zjz.1 hb;exact hg a ha (h.2 a ha)⟩
theorem q6t{f:Fn}(hf:f.ok)(hv:VOk f)(hw:f.qaa.length<=65536)(hb:f.blocks.length<=1024):(Sp.canon f).ok:=by
 obtain⟨o1,o2,o3,o4,o5,o6⟩:=hf;have hD:(qcc f (Sp.order f)).length<=f.qaa.length:=qv3 _ _ hv.nd hv.rg;have hl:=qr3 f;have ho:=qes f;have hr:∀v,I64 (Sp.ren f v):=fun v=>by
  have:=qwi (qcc f (Sp.order f)) v;unfold I64 Sp.ren;omega
 have hbt:∀v,I64 (Sp.index (Sp.order f) v):=fun v=>by
  have:=qwi (Sp.order f) v;unfold I64;omega
 refine⟨o1,⟨?_,fun w hw'=>?_⟩,o3,o4,o5,⟨?_,fun B hB=>?_⟩⟩
 ·have h1:=o2.1;simp only[Sp.canon,zje];exact zj6 (zkm 8 hD) h1
 ·obtain⟨v,hv',rfl⟩:=zjz.1 hw';have:=hv.rg v hv';refine o2.2 _ ?_;rw[zi5,zjc (by omega)];exact zj1 _
 ·rw[q22];exact zj6 (zkm 136 hl) o6.1
 ·obtain⟨b,hb',rfl⟩:=zjz.1 hB;have hrb:=ho.1 b hb';obtain⟨p1,p2,p3,p4,p5,p6⟩:=o6.2 _ (qcx (f:=f) (i:=b.toNat) (by omega));obtain⟨t1,t2,t3,t4⟩:=p3;refine⟨p1.map fun v _ _=>hr v,p2.map fun x _ hx=>?_,⟨t1,?_,?_,t4.map fun v _ _=>hr v⟩,p4,p5,p6⟩
  ·obtain⟨x1,x2,x3,x4,x5⟩:=hx;refine⟨x1,?_,x3.map fun v _ _=>hr v,x4,x5⟩;show I64 (if _ then _ else _);split
   ·exact hr _
   ·exact x2
  ·show I64 (if _ then _ else _);split
   ·unfold I64;omega
   ·exact hr _
  ·have k1:All 32 Edge.ok ((f.blocks.getD b.toNat Block.z).term.to.map (reE (Sp.ren f))):=All.map (g:=reE (Sp.ren f)) t3 fun e _ he=>⟨he.1,All.map (g:=Sp.ren f) he.2 fun v _ _=>hr v⟩
   exact All.map (g:=fun e:Edge=>(⟨Sp.index (Sp.order f) e.block,e.args⟩:Edge)) k1 fun e _ he=>⟨hbt _,he.2⟩
end
end Go.Abs
namespace Go.Abs
open Go Go.Proofs
noncomputable section
def qx0(rn bt:Int->Int)(b:Block):Block:=⟨b.params.map rn,b.insts.map (reI rn),⟨b.term.kind,if b.term.cond=-1 then -1 else rn b.term.cond,b.term.to.map (fun e=>⟨bt e.block,e.args.map rn⟩),b.term.qax.map rn⟩,b.qar,b.qa9,b.line⟩
structure Iso(f g:Fn)(rn bt:Int->Int)(D O:List Int):Prop where
 nm:g.name=f.name
 ar:g.qag=f.qag
 sr:g.streams=f.streams
 rt:g.qax=f.qax
 wd:∀v∈D,g.qaa.getD (rn v).toNat 0=f.qaa.getD v.toNat 0/\0<=rn v/\rn v<g.qaa.length
 dr:∀v∈D,0<=v/\v<f.qaa.length
 inj:∀u∈D,∀v∈D,(rn u).toNat=(rn v).toNat->u=v
 bj:∀b∈O,∀c∈O,bt b=bt c->b=c
 br:∀b∈O,0<=b/\b<f.blocks.length
 bg:∀b∈O,0<=bt b/\bt b<g.blocks.length
 z0:0∈O
 z1:bt 0=0
 bk:∀b∈O,g.blocks.getD (bt b).toNat Block.z=qx0 rn bt (f.blocks.getD b.toNat Block.z)
 cl:∀b∈O,∀e∈(f.blocks.getD b.toNat Block.z).term.to,e.block∈O
 ds:∀b∈O,∀v∈Sp.qco (f.blocks.getD b.toNat Block.z),v∈D
section
variable {f g:Fn} {rn bt:Int->Int} {D O:List Int}
theorem ze7(I:Iso f g rn bt D O)(x:qat)(hx:∀v∈x.args,v∈D):Sp.aL g (reI rn x) x.args.length=Sp.aL f x x.args.length:=by
 have key:∀k,(if k<x.args.length then g.qaa.getD ((reI rn x).args.getD k 0).toNat 0 else 0)=(if k<x.args.length then f.qaa.getD (x.args.getD k 0).toNat 0 else 0):=fun k=>by
  by_cases hk:k<x.args.length
  ·rw[if_pos hk,if_pos hk];have e:(reI rn x).args.getD k 0=rn (x.args.getD k 0):=by
    show(x.args.map rn).getD k 0=_;simp only[zi5,zkc,zjc hk,zko,zjv]
   rw[e];refine(I.wd _ (hx _ ?_)).1;rw[zi5,zjc hk];exact zj1 hk
  ·rw[if_neg hk,if_neg hk]
 unfold Sp.aL;rw[key 0,key 1,key 2]
theorem qsg(I:Iso f g rn bt D O)(x:qat)(hx:∀v∈x.args,v∈D)(hn:Sp.named x.op=Sp.result x.op)(hd:Sp.named x.op=true->x.dest∈D):Sp.qdp g (reI rn x)=Sp.qdp f x:=by
 have e1:Sp.wOf g (reI rn x)=Sp.wOf f x:=by
  unfold Sp.wOf;show(if Sp.result x.op=true then g.qaa.getD (if Sp.named x.op=true then rn x.dest else x.dest).toNat 0 else 0)=_;cases hr:Sp.result x.op with
  |false=>rfl
  |true=>
   have h1:Sp.named x.op=true:=hn.trans hr;rw[if_pos h1,if_pos rfl,if_pos rfl];exact(I.wd _ (hd h1)).1
 have e2:(reI rn x).args.length=x.args.length:=by simp[reI]
 have e3:Sp.qjd g (reI rn x)=Sp.qjd f x:=by
  unfold Sp.qjd;rw[I.ar,I.sr];rfl
 have e4:Sp.mOf g (reI rn x)=Sp.mOf f x:=by
  unfold Sp.mOf;rw[I.ar,I.sr];rfl
 unfold Sp.qdp;rw[e1,e2,e3,e4,ze7 I x hx];rfl
def KT'(rn:Int->Int)(k:List Bool)(ks:List Int):Prop:=∀v∈ks,k.getD (rn v).toNat false=true
theorem qk8(I:Iso f g rn bt D O){k:List Bool}{ks:List Int}(hk:KT' rn k ks)(hs:∀v∈ks,v∈D){l:List Int}(hl:∀v∈l,v∈ks):Sp.used g (l.map rn) k=true:=by
 simp only[Sp.used,zjm,zi4];intro u hu;obtain⟨v,hv',rfl⟩:=zjz.1 hu;have hm:=hl v hv';have:=(I.wd v (hs v hm)).2;exact⟨within_iff.2 this,hk v hm⟩
theorem qp8(rn:Int->Int)(l:List Int){i:Nat}(hi:i<l.length):(l.map rn).getD i 0=rn (l.getD i 0)/\l.getD i 0∈l:=by
 refine⟨?_,?_⟩
 ·simp only[zi5,zkc,zjc hi,zko,zjv]
 ·rw[zi5,zjc hi];exact zj1 hi
theorem q6q(I:Iso f g rn bt D O){k k0:List Bool}{ks:List Int}(hk:KT' rn k ks)(hs:∀v∈ks,v∈D){e:Edge}(ho:e.block∈O)(ha:∀v∈e.args,v∈ks)(h:Sp.qc0 f e k0=true):Sp.qc0 g ⟨bt e.block,e.args.map rn⟩ k=true:=by
 have hr:=I.bg _ ho;have hb1:1<=e.block:=by
  simp only[Sp.qc0,zi4,zjo,decide_eq_false_iff_not]at h;omega
 have hne:bt e.block≠0:=fun hc=>by
  have:=I.bj _ ho 0 I.z0 (by rw[hc,I.z1]);omega
 have hblk:=I.bk _ ho;have hor:=I.br _ ho;have hps:∀v∈(f.blk e.block.toNat).params,v∈D:=fun v hv'=>I.ds _ ho v (zjs _ hv');have hp:(g.blk (bt e.block).toNat).params=(f.blk e.block.toNat).params.map rn:=by
  show(g.blocks.getD (bt e.block).toNat Block.z).params=_;rw[hblk];rfl
 unfold Sp.qc0 at h ⊢;simp only[zi4,zjo,decide_eq_false_iff_not,decide_eq_true_eq,zjm,zj3,hp,zje]at h ⊢;obtain⟨⟨⟨a1,a2⟩,a3⟩,a4,a5⟩:=h;refine⟨⟨⟨by omega,by omega⟩,qk8 I hk hs ha⟩,a4,fun i hi=>?_⟩;have:=a5 i hi;unfold Sp.qqz at this ⊢;simp only[zi4,decide_eq_true_eq]at this ⊢;obtain⟨p1,p2⟩:=qp8 rn (f.blk e.block.toNat).params hi;obtain⟨q1,q2⟩:=qp8 rn e.args (i:=i) (by omega);rw[p1,q1];have c1:=I.wd _ (hps _ p2);have c2:=I.wd _ (hs _ (ha _ q2));exact⟨within_iff.2 c1.2,by rw[c1.1,c2.1];exact this.2⟩
theorem q42(I:Iso f g rn bt D O){k k0:List Bool}{ks:List Int}(hk:KT' rn k ks)(hs:∀v∈ks,v∈D){t:Term}(hc:t.cond=-1\/t.cond∈ks)(hr:∀v∈t.qax,v∈ks)(ha:∀e∈t.to,∀v∈e.args,v∈ks)(ho:∀e∈t.to,e.block∈O)(h:Sp.qdm f t k0=true) :
  Sp.qdm g ⟨t.kind,if t.cond=-1 then -1 else rn t.cond,t.to.map (fun e=>⟨bt e.block,e.args.map rn⟩),t.qax.map rn⟩ k=true:=by
 unfold Sp.qdm at h ⊢;simp only[zi4,zj7,decide_eq_true_eq,zjm,zje]at h ⊢;obtain⟨⟨⟨a1,a2,a3⟩,a4⟩,a5⟩:=h;refine⟨⟨⟨?_,a2,a3⟩,?_⟩,fun e he=>?_⟩
 ·unfold Sp.kindOk at a1 ⊢;simp only[zje];split
  ·rfl
  ·rename_i h12;rw[if_neg h12]at a1;split
   ·rename_i h3;rw[if_pos h3]at a1;simp only[zi4,decide_eq_true_eq,zjm,zj3]at a1 ⊢;refine⟨⟨by rw[I.rt];exact a1.1.1,qk8 I hk hs hr⟩,fun i hi=>?_⟩
    have:=a1.2 i hi;unfold Sp.zdp at this ⊢;obtain⟨p1,p2⟩:=qp8 rn t.qax hi;rw[p1];refine decide_eq_true ?_;rw[(I.wd _ (hs _ (hr _ p2))).1,I.rt];exact of_decide_eq_true this
   ·rename_i h3;rw[if_neg h3]at a1;cases a1
 ·unfold Sp.qnh at a4 ⊢;simp only;by_cases h2:t.kind=2
  ·rw[if_pos h2]at a4 ⊢;simp only[zi4,decide_eq_true_eq]at a4 ⊢;have hw:0<=t.cond:=by
    have:=a4.1;simp only[Sp.used,List.all_cons,List.all_nil,zjq,zi4]at this;exact(within_iff.1 this.1).1
   have hm:=hc.resolve_left (by omega);rw[if_neg (by omega)];refine⟨qk8 I hk hs (l:=[t.cond]) (fun v hv'=>by rw[zki.1 hv'];exact hm),?_⟩
   rw[(I.wd _ (hs _ hm)).1];exact a4.2
  ·rw[if_neg h2]at a4 ⊢;have:=of_decide_eq_true a4;rw[if_pos this];rfl
 ·obtain⟨e1,he1,rfl⟩:=zjz.1 he;exact q6q I hk hs (ho e1 he1) (ha e1 he1) (a5 e1 he1)
def DL'(g:Fn)(rn:Int->Int)(D P:List Int)(d:List Bool):Prop:=d.length=g.qaa.length/\∀v∈D,d.getD (rn v).toNat false=true->v∈P
def KL'(g:Fn)(rn:Int->Int)(ks:List Int)(k:List Bool):Prop:=k.length=g.qaa.length/\KT' rn k ks
theorem DL'.set(I:Iso f g rn bt D O){P:List Int}{d:List Bool}(h:DL' g rn D P d){v:Int}(hm:v∈D):DL' g rn D (P++[v]) (d.set (rn v).toNat true):=by
 refine⟨by simp[h.1],fun u hu hk=>?_⟩;rcases getD_set_true hk with e|e
 ·rw[I.inj u hu v hm e];simp
 ·exact zjs _ (h.2 u hu e)
theorem KL'.set(I:Iso f g rn bt D O){ks:List Int}{k:List Bool}(h:KL' g rn ks k){v:Int}(hm:v∈D):KL' g rn (ks++[v]) (k.set (rn v).toNat true):=by
 refine⟨by simp[h.1],fun u hu=>?_⟩;have hr:=(I.wd v hm).2;rw[zi5,List.getElem?_set];by_cases e:(rn v).toNat=(rn u).toNat
 ·rw[if_pos e,if_pos (by rw[h.1];omega)];rfl
 ·rw[if_neg e,<- zi5];rcases zjp.1 hu with hu|hu
  ·exact h.2 u hu
  ·rw[zki.1 hu]at e;exact absurd rfl e
theorem DL'.no{P:List Int}{d:List Bool}(h:DL' g rn D P d){v:Int}(hm:v∈D)(hp:v∉P):d.getD (rn v).toNat false=false:=by
 cases hx:d.getD (rn v).toNat false with
 |false=>rfl
 |true=>exact absurd (h.2 v hm hx) hp
theorem qvu(I:Iso f g rn bt D O):∀(l P ks:List Int) (s:DK),DL' g rn D P s.1->KL' g rn ks s.2->(∀v∈l,v∈D)->(P++l).Nodup->∃s',qch (Sp.qcy g) (l.map rn) s=some s'/\DL' g rn D (P++l) s'.1/\KL' g rn (ks++l) s'.2
 |[],P,ks,s,hd,hk,_,_=>⟨s,rfl,by simpa using hd,by simpa using hk⟩
 |v::l,P,ks,s,hd,hk,hl,hn=>by
  have hm:=hl v (zjd ..);have hp:v∉P:=fun h=>(zj0.1 hn).2.2 v h v (zjd ..) rfl;have e2:P++[v]++l=P++v::l:=by simp
  have e3:ks++[v]++l=ks++v::l:=by simp
  obtain⟨s',k1,k2,k3⟩:=qvu I l (P++[v]) (ks++[v]) (s.1.set (rn v).toNat true,s.2.set (rn v).toNat true) (hd.set I hm) (hk.set I hm) (fun u hu=>hl u (zjk _ hu)) (by rw[e2];exact hn)
  rw[e2]at k2;rw[e3]at k3;refine⟨s',?_,k2,k3⟩;rw[zjl];simp only[qch];have:Sp.qcy g s (rn v)=some (s.1.set (rn v).toNat true,s.2.set (rn v).toNat true):=by
   unfold Sp.qcy;rw[if_pos ⟨within_iff.2 (I.wd v hm).2,hd.no hm hp⟩]
  rw[this];exact k1
structure ze9(f:Fn)(x:qat):Prop where
 ar:Sp.arity x.op=x.args.length
 ok:Sp.qdp f x=true
 nm:Sp.named x.op=Sp.result x.op
 no:Sp.named x.op=false->x.dest=-1
theorem qqm(I:Iso f g rn bt D O):∀(l:List qat) (P ks:List Int) (s:DK),DL' g rn D P s.1->KL' g rn ks s.2->qxe l ks->(∀v∈ks,v∈D)->(∀v∈dl l,v∈D)->(P++dl l).Nodup->(∀x∈l,ze9 f x) ->
  ∃s',qch (Sp.qb5 g) (l.map (reI rn)) s=some s'/\DL' g rn D (P++dl l) s'.1/\KL' g rn (ks++dl l) s'.2
 |[],P,ks,s,hd,hk,_,_,_,_,_=>⟨s,rfl,by simpa[dl]using hd,by simpa[dl]using hk⟩
 |x::l,P,ks,s,hd,hk,hu,hs,hl,hn,hg=>by
  obtain⟨u1,u2⟩:=hu;have gx:=hg x (zjd ..);have hgl:∀y∈l,ze9 f y:=fun y hy=>hg y (zjk _ hy);have hus:=qk8 I hk.2 hs u1;have har:Sp.arity (reI rn x).op=(reI rn x).args.length:=by
   show Sp.arity x.op=((x.args.map rn).length:Int)
   rw[zje];exact gx.ar
  rw[zjl];simp only[qch];cases hx:Sp.named x.op with
  |true=>
   have hr:Sp.result x.op=true:=by rw[<- gx.nm];exact hx
   rw[qf4 hx]at hl hn ⊢;rw[if_pos hx]at u2;have hm:=hl x.dest (zjd ..);have hp:x.dest∉P:=fun h=>(zj0.1 hn).2.2 _ h _ (zjd ..) rfl;have e2:P++[x.dest]++dl l=P++x.dest::dl l:=by simp
   have e3:ks++[x.dest]++dl l=ks++x.dest::dl l:=by simp
   have ed:(reI rn x).dest=rn x.dest:=if_pos hx;obtain⟨s',k1,k2,k3⟩:=qqm I l (P++[x.dest]) (ks++[x.dest]) (s.1.set (rn x.dest).toNat true,s.2.set (rn x.dest).toNat true) (hd.set I hm) (hk.set I hm) u2 (fun v hv'=>by
    rcases zjp.1 hv' with h|h
    ·exact hs v h
    ·rw[zki.1 h];exact hm) (fun v hv'=>hl v (zjk _ hv')) (by rw[e2];exact hn) hgl
   rw[e2]at k2;rw[e3]at k3;refine⟨s',?_,k2,k3⟩;have:Sp.qb5 g s (reI rn x)=some (s.1.set (rn x.dest).toNat true,s.2.set (rn x.dest).toNat true):=by
    unfold Sp.qb5;have hd2:Sp.qfe g s.1 (reI rn x)=true:=by
     unfold Sp.qfe;rw[if_pos (show Sp.result (reI rn x).op=true from hr),ed,within_iff.2 (I.wd _ hm).2,hd.no hm hp];rfl
    rw[if_pos ⟨har,hus,hd2,by rw[qsg I x (fun v hv'=>hs v (u1 v hv')) gx.nm (fun _=>hm)];exact gx.ok⟩]
    unfold Sp.mark;rw[if_pos (show Sp.result (reI rn x).op=true from hr),ed]
   rw[this];exact k1
  |false=>
   have hr:Sp.result x.op=false:=by rw[<- gx.nm];exact hx
   rw[qf5 hx]at hl hn ⊢;rw[if_neg (by simp[hx])]at u2;have ed:(reI rn x).dest=-1:=by
    show(if Sp.named x.op=true then _ else x.dest)=-1;rw[if_neg (by simp[hx])];exact gx.no hx
   obtain⟨s',k1,k2,k3⟩:=qqm I l P ks s hd hk u2 hs hl hn hgl;refine⟨s',?_,k2,k3⟩;have:Sp.qb5 g s (reI rn x)=some s:=by
    unfold Sp.qb5;have hd2:Sp.qfe g s.1 (reI rn x)=true:=by
     unfold Sp.qfe;rw[if_neg (by rw[show(reI rn x).op=x.op from rfl,hr];simp),ed]
     rfl
    rw[if_pos ⟨har,hus,hd2,by rw[qsg I x (fun v hv'=>hs v (u1 v hv')) gx.nm (fun h=>by rw[hx]at h;cases h)];exact gx.ok⟩]
    unfold Sp.mark;rw[if_neg (by rw[show(reI rn x).op=x.op from rfl,hr];simp)]
   rw[this];exact k1
theorem za1(I:Iso f g rn bt D O){b:Int}(hb:b∈O){d0 d0':List Bool}(h:Sp.qcb f d0 (f.blocks.getD b.toNat Block.z)=some d0')(P:List Int)(d:List Bool)(hd:DL' g rn D P d)(hn:(P++Sp.qco (f.blocks.getD b.toNat Block.z)).Nodup) :
  ∃d',Sp.qcb g d (qx0 rn bt (f.blocks.getD b.toNat Block.z))=some d'/\DL' g rn D (P++Sp.qco (f.blocks.getD b.toNat Block.z)) d':=by
 have hD:=I.ds b hb;have hto:=I.cl b hb;have hu:=q3f h;generalize f.blocks.getD b.toNat Block.z=B at h hn hD hu hto ⊢;simp only[Sp.qcb]at h;split at h
 ·rename_i hl;split at h
  ·rename_i s1 h1;split at h
   ·rename_i s2 h2;split at h
    ·rename_i ht;have ea:P++Sp.qco B=P++B.params++dl B.insts:=by rw[qh1];simp
     rw[ea]at hn;have k0:KL' g rn [] (List.replicate g.qaa.length false):=⟨by simp,fun v hv'=>by cases hv'⟩
     obtain⟨t1,p1,p2,p3⟩:=qvu I B.params P [] (d,List.replicate g.qaa.length false) hd k0 (fun v hv'=>hD v (zjs _ hv')) (zj0.1 hn).1;obtain⟨t2,q1,q2,q3⟩:=qqm I B.insts (P++B.params) ([]++B.params) t1 p2 p3 (by simpa using hu.is) (fun v hv'=>hD v (zjs _ (by simpa using hv'))) (fun v hv'=>hD v (zkb _ hv')) hn (fun x hx=>by
      obtain⟨u1,u2,hx2⟩:=qe4 _ _ _ h2 x hx;have hnm:=qeo hx2;unfold Sp.qb5 at hx2;split at hx2
      ·rename_i hc;exact⟨hc.1,hc.2.2.2,hnm.1,hnm.2⟩
      ·cases hx2)
     have q3':KL' g rn (Sp.qco B) t2.2:=by rw[qh1];simpa using q3
     have tc:=q42 I q3'.2 hD (t:=B.term) hu.cd hu.rs hu.es hto ht;refine⟨t2.1,?_,by rw[ea];exact q2⟩
     unfold Sp.qcb;have hl2:Sp.qn6 (qx0 rn bt B)=true:=by
      unfold Sp.qn6 at hl ⊢;rw[show(qx0 rn bt B).insts.length=B.insts.length from zje _];exact hl
     rw[if_pos hl2,show(qx0 rn bt B).params=B.params.map rn from rfl,p1];simp only;rw[show(qx0 rn bt B).insts=B.insts.map (reI rn)from rfl,q1];simp only;rw[show(qx0 rn bt B).term=⟨B.term.kind,if B.term.cond=-1 then -1 else rn B.term.cond,B.term.to.map (fun e=>⟨bt e.block,e.args.map rn⟩),B.term.qax.map rn⟩from rfl,if_pos tc]
    ·cases h
   ·cases h
  ·cases h
 ·cases h
theorem qy0(I:Iso f g rn bt D O)(h:Sp.valid f=true)(hh:Sp.qm1 g=true)(L:List Int)(hL:∀b∈L,b∈O)(hg:g.blocks=L.map fun b=>qx0 rn bt (f.blocks.getD b.toNat Block.z))(hn:(qcc f L).Nodup):Sp.valid g=true:=by
 have key:∀(l P:List Int) (d:List Bool),(∀b∈l,b∈O)->DL' g rn D P d->(P++qcc f l).Nodup->∃d',qch (Sp.qcb g) (l.map fun b=>qx0 rn bt (f.blocks.getD b.toNat Block.z)) d=some d':=by
  intro l
  induction l with
  |nil=>intro P d _ _ _;exact⟨d,rfl⟩
  |cons b l ih=>
   intro P d hl hd hn;have hb:=hl b (zjd ..);have hr:=I.br b hb;obtain⟨d0,d0',hblk⟩:=qlv h _ (qcx (f:=f) (i:=b.toNat) (by omega));have e1:P++qcc f (b::l)=P++Sp.qco (f.blocks.getD b.toNat Block.z)++qcc f l:=by simp[qcc]
   rw[e1]at hn;obtain⟨d1,k1,k2⟩:=za1 I hb hblk P d hd (zj0.1 hn).1;obtain⟨d2,k3⟩:=ih _ d1 (fun c hc=>hl c (zjk _ hc)) k2 hn;refine⟨d2,?_⟩;rw[zjl];simp only[qch];rw[k1];exact k3
 obtain⟨d',hd'⟩:=key L [] (List.replicate g.qaa.length false) hL ⟨by simp,fun v _ hk=>by
  rw[zi5,List.getElem?_replicate]at hk;split at hk<;>cases hk⟩ (by simpa using hn)
 unfold Sp.valid;rw[hh,zjy,hg,hd'];rfl
end
end
end Go.Abs
namespace Go.Abs
open Go Go.Proofs
noncomputable section
section
variable {f g:Fn} {rn bt:Int->Int} {D O:List Int}
theorem qrd(I:Iso f g rn bt D O):∀(n:Nat) (b:Int) (s:List Bool×List Int),b∈O->(∀v∈s.2,v∈O)->s.1=qc4 f s.2->(∀v∈(Sp.visit f n b s).2,v∈O) /\
  Sp.visit g n (bt b) (qc4 g (s.2.map bt),s.2.map bt)=(qc4 g ((Sp.visit f n b s).2.map bt),(Sp.visit f n b s).2.map bt)
 |0,b,s,_,hs,_=>⟨hs,rfl⟩
 |n+1,b,s,hb,hs,h1=>by
  have hr:=I.br b hb;have hr2:=I.bg b hb;have hl:s.1.length=f.blocks.length:=by rw[h1,qi5]
  have eS:(qc4 g (s.2.map bt)).getD (bt b).toNat false=s.1.getD b.toNat false:=by
   rw[ql9 _ _ hr2.1 hr2.2,h1,ql9 _ _ hr.1 hr.2,List.any_map];refine Bool.eq_iff_iff.2 ?_;simp only[List.any_eq_true,Function.comp,decide_eq_true_eq];exact⟨fun⟨x,hx,e⟩=>⟨x,hx,I.bj _ (hs x hx) _ hb e⟩,fun⟨x,hx,e⟩=>⟨x,hx,by rw[e]⟩⟩
  unfold Sp.visit;rw[if_neg (show ¬ (b<0\/(s.1.length:Int)<=b)by omega),if_neg (show ¬ (bt b<0\/((qc4 g (s.2.map bt)).length:Int)<=bt b)by rw[qi5];omega)]
  simp only[eS];cases hsn:s.1.getD b.toNat false with
  |true=>exact⟨hs,rfl⟩
  |false=>
   simp only[zjw,if_false];have e1:(qc4 g (s.2.map bt)).set (bt b).toNat true=qc4 g ((s.2++[b]).map bt):=by
    rw[qhu _ _ hr2.1 hr2.2,zkw];rfl
   have e2:s.2.map bt++[bt b]=(s.2++[b]).map bt:=by simp
   rw[e1,e2,I.bk b hb];have e3:s.1.set b.toNat true=qc4 f (s.2++[b]):=by rw[h1];exact qhu f s.2 hr.1 hr.2
   rw[e3];have key:∀(l:List Edge) (o:List Int),(∀e∈l,e.block∈O)->(∀v∈o,v∈O)->(∀v∈(l.foldl (fun s e=>Sp.visit f n e.block s) (qc4 f o,o)).2,v∈O) /\
     (l.map fun e=>(⟨bt e.block,e.args.map rn⟩:Edge)).foldl (fun s e=>Sp.visit g n e.block s) (qc4 g (o.map bt),o.map bt)=(qc4 g ((l.foldl (fun s e=>Sp.visit f n e.block s) (qc4 f o,o)).2.map bt),(l.foldl (fun s e=>Sp.visit f n e.block s) (qc4 f o,o)).2.map bt):=by
    intro l
    induction l with
    |nil=>intro o _ ho;exact⟨ho,rfl⟩
    |cons e l ih=>
     intro o hl ho;obtain⟨k1,k2⟩:=qrd I n e.block (qc4 f o,o) (hl e (zjd ..)) ho rfl;have k3:=qog f n e.block (qc4 f o,o) rfl;have ih':=ih (Sp.visit f n e.block (qc4 f o,o)).2 (fun e he=>hl e (zjk _ he)) k1;rw[zjl,List.foldl_cons,List.foldl_cons];simp only at k2 ⊢;rw[k2];have e5:Sp.visit f n e.block (qc4 f o,o)=(qc4 f (Sp.visit f n e.block (qc4 f o,o)).2,(Sp.visit f n e.block (qc4 f o,o)).2):=Prod.ext k3 rfl;rw[<- e5]at ih';exact ih'
   exact key (f.blocks.getD b.toNat Block.z).term.to (s.2++[b]) (I.cl b hb) (fun v hv=>by
    rcases zjp.1 hv with h|h
    ·exact hs v h
    ·rw[zki.1 h];exact hb)
theorem q05(I:Iso f g rn bt D O)(hl:g.blocks.length=f.blocks.length):Sp.order g=(Sp.order f).map bt/\∀b∈Sp.order f,b∈O:=by
 have k:=qrd I (f.blocks.length+1) 0 (qc4 f [],[]) I.z0 (fun v hv=>by cases hv) rfl;simp only[List.map_nil,I.z1]at k;have e1:Sp.order f=(Sp.visit f (f.blocks.length+1) 0 (qc4 f [],[])).2:=by rw[ql8];rfl
 have e2:Sp.order g=(Sp.visit g (f.blocks.length+1) 0 (qc4 g [],[])).2:=by rw[ql8,hl,<- hl];rfl
 rw[e2,k.2,<- e1];exact⟨rfl,by rw[e1];exact k.1⟩
theorem q2u(b:Block):Sp.qco (qx0 rn bt b)=(Sp.qco b).map rn:=by
 rw[qh1,qh1,zkw];show b.params.map rn++dl (b.insts.map (reI rn))=_;rw[q2r]
theorem qwx(I:Iso f g rn bt D O):∀l:List Int,(∀b∈l,b∈O)->qcc g (l.map bt)=(qcc f l).map rn
 |[],_=>rfl
 |b::l,h=>by
  have ih:=qwx I l (fun c hc=>h c (zjk _ hc));unfold qcc at ih ⊢;rw[zjl,List.flatMap_cons,List.flatMap_cons,ih,I.bk b (h b (zjd ..)),q2u,zkw]
theorem qsi{r:Int->Int}{l:List Int}(hn:l.Nodup)(hi:∀u∈l,∀v∈l,r u=r v->u=v){v:Int}(hv:v∈l):Sp.index (l.map r) (r v)=Sp.index l v:=by
 have hm:(l.map r).Nodup:=List.pairwise_map.2 (hn.imp_of_mem fun hu hv hne e=>hne (hi _ hu _ hv e));obtain⟨i,h1,h2,h3⟩:=qmz hn hv;have:=qhz hm (i:=i) (by simpa using h1);rw[h3,<- this];congr 1;simp only[zi5,zkc,zjc h1,zko,zjv]at h2 ⊢;rw[h2]
theorem q23(I:Iso f g rn bt D O)(hv:VOk f)(hl:g.blocks.length=f.blocks.length):Sp.canon g=Sp.canon f:=by
 obtain⟨eo,hO⟩:=q05 I hl;have ed:qcc g (Sp.order g)=(qcc f (Sp.order f)).map rn:=by rw[eo];exact qwx I _ hO
 have hD:∀v∈qcc f (Sp.order f),v∈D:=fun v h=>by
  obtain⟨b,hb,hbv⟩:=zks.1 h;exact I.ds b (hO b hb) v hbv
 have er:∀v∈qcc f (Sp.order f),Sp.ren g (rn v)=Sp.ren f v:=fun v h=>by
  unfold Sp.ren;rw[ed];exact qsi hv.nd (fun u hu w hw e=>I.inj u (hD u hu) w (hD w hw) (by rw[e])) h
 have eb:∀b∈Sp.order f,Sp.index (Sp.order g) (bt b)=Sp.index (Sp.order f) b:=fun b h=>by
  rw[eo];exact qsi (qes f).2 (fun u hu w hw e=>I.bj u (hO u hu) w (hO w hw) e) h
 unfold Sp.canon;rw[I.nm,I.ar,I.sr,I.rt,ed,zkj,eo,zkj];congr 1
 ·exact zj2 fun v h=>(I.wd v (hD v h)).1
 ·refine zj2 fun b hb=>?_;simp only[Function.comp];rw[I.bk b (hO b hb)];have hr:=(qes f).1 b hb;have hu:=hv.use b.toNat (by omega);have hd:∀v∈Sp.qco (f.blocks.getD b.toNat Block.z),v∈qcc f (Sp.order f):=fun v h=>zks.2 ⟨b,hb,h⟩;have hto:∀e∈(f.blocks.getD b.toNat Block.z).term.to,e.block∈Sp.order f:=fun e he=>by
   have:=hv.es b.toNat (by omega) e he;exact qko f (b:=b.toNat) (by rw[zk1 hr.1];exact hb) he this.1 this.2
  generalize f.blocks.getD b.toNat Block.z=B at hu hd hto ⊢;have kl:∀l:List Int,(∀v∈l,v∈Sp.qco B)->(l.map rn).map (Sp.ren g)=l.map (Sp.ren f):=fun l h=>by
   rw[zkj];exact zj2 fun v hv=>er v (hd v (h v hv))
  have ki:(B.insts.map (reI rn)).map (reI (Sp.ren g))=B.insts.map (reI (Sp.ren f)):=by
   rw[zkj];refine zj2 fun x hx=>?_;have ha:=qg4 _ _ hu.is x hx;show(⟨x.op,if Sp.named x.op=true then Sp.ren g (if Sp.named x.op=true then rn x.dest else x.dest)else(if Sp.named x.op=true then rn x.dest else x.dest),(x.args.map rn).map (Sp.ren g),x.num,x.mem⟩:qat)=⟨x.op,if Sp.named x.op=true then Sp.ren f x.dest else x.dest,x.args.map (Sp.ren f),x.num,x.mem⟩
   rw[kl x.args ha];by_cases hn:Sp.named x.op=true
   ·rw[if_pos hn,if_pos hn,if_pos hn,er _ (hd _ (zkb _ (qsw hx hn)))]
   ·rw[if_neg hn,if_neg hn,if_neg hn]
  have kc:(if(if B.term.cond=-1 then(-1:Int)else rn B.term.cond)=-1 then(-1:Int)else Sp.ren g (if B.term.cond=-1 then -1 else rn B.term.cond))=if B.term.cond=-1 then(-1:Int)else Sp.ren f B.term.cond:=by
   by_cases hc:B.term.cond=-1
   ·simp[hc]
   ·have hm:=hd _ (hu.cd.resolve_left hc);have:=(I.wd _ (hD _ hm)).2;rw[if_neg hc,if_neg hc,if_neg (by omega)];exact er _ hm
  have kt:((B.term.to.map fun e=>(⟨bt e.block,e.args.map rn⟩:Edge)).map (reE (Sp.ren g))).map (fun e=>(⟨Sp.index (Sp.order g) e.block,e.args⟩:Edge))=(B.term.to.map (reE (Sp.ren f))).map (fun e=>⟨Sp.index (Sp.order f) e.block,e.args⟩):=by
   rw[zkj,zkj,zkj];refine zj2 fun e he=>?_;simp only[Function.comp,reE];rw[kl e.args (hu.es e he),eb _ (hto e he)]
  unfold Sp.reG reB qx0;simp only;congr 1
  ·exact kl _ (fun v hv=>zjs _ hv)
  ·congr 1;exact kl _ hu.rs
end
end
end Go.Abs
namespace Go.Abs
open Go Go.Proofs
noncomputable section
def Sp.qdq(x n k b:Int):Int:=if x<k\/n<=k then x else k+(x-k+b) % (n-k)
def Sp.back(x n k b:Int):Int:=if x<k\/n<=k then x else k+(x-k-b) % (n-k)
theorem qej{x n k b:Int}(hk:0<=k)(h0:0<=x)(h1:x<n):0<=Sp.qdq x n k b/\Sp.qdq x n k b<n:=by
 unfold Sp.qdq;split
 ·exact⟨h0,h1⟩
 ·rename_i h;have a:=Int.emod_nonneg (x-k+b) (show n-k≠0 by omega);have c:=Int.emod_lt_of_pos (x-k+b) (show 0<n-k by omega);omega
theorem qh3{x n k b:Int}(hk:0<=k)(h0:0<=x)(h1:x<n):0<=Sp.back x n k b/\Sp.back x n k b<n:=by
 unfold Sp.back;split
 ·exact⟨h0,h1⟩
 ·rename_i h;have a:=Int.emod_nonneg (x-k-b) (show n-k≠0 by omega);have c:=Int.emod_lt_of_pos (x-k-b) (show 0<n-k by omega);omega
theorem qx9(y b N:Int)(h0:0<=y)(h1:y<N):((y+b) % N-b) % N=y:=by
 have e:(y+b) % N-b=y+N*(-((y+b)/N)):=by
  rw[Int.emod_def,Int.mul_neg];omega
 rw[e,Int.add_mul_emod_self_left,Int.emod_eq_of_lt h0 h1]
theorem q2p(y b N:Int)(h0:0<=y)(h1:y<N):((y-b) % N+b) % N=y:=by
 have e:(y-b) % N+b=y+N*(-((y-b)/N)):=by
  rw[Int.emod_def,Int.mul_neg];omega
 rw[e,Int.add_mul_emod_self_left,Int.emod_eq_of_lt h0 h1]
theorem qjq{x n k b:Int}(hk:0<=k)(h0:0<=x)(h1:x<n):Sp.back (Sp.qdq x n k b) n k b=x:=by
 unfold Sp.qdq;split
 ·rename_i h;unfold Sp.back;rw[if_pos h]
 ·rename_i h;have a:=Int.emod_nonneg (x-k+b) (show n-k≠0 by omega);unfold Sp.back;rw[if_neg (by omega)];have e:k+(x-k+b) % (n-k)-k-b=(x-k+b) % (n-k)-b:=by omega
  rw[e,qx9 _ _ _ (by omega) (by omega)];omega
theorem qlw{x n k b:Int}(hk:0<=k)(h0:0<=x)(h1:x<n):Sp.qdq (Sp.back x n k b) n k b=x:=by
 unfold Sp.back;split
 ·rename_i h;unfold Sp.qdq;rw[if_pos h]
 ·rename_i h;have a:=Int.emod_nonneg (x-k-b) (show n-k≠0 by omega);unfold Sp.qdq;rw[if_neg (by omega)];have e:k+(x-k-b) % (n-k)-k+b=(x-k-b) % (n-k)+b:=by omega
  rw[e,q2p _ _ _ (by omega) (by omega)];omega
def qfa{β:Type}(F:Nat->β)(z:β)(n:Nat)(k b:Int)(i:Nat):List β:=(List.range n).map fun(j:Nat)=>if Sp.back (j:Int) n k b<i then F (Sp.back (j:Int) n k b).toNat else z
theorem qjk{β:Type}(F:Nat->β)(z:β)(n:Nat)(k b:Int)(i:Nat):(qfa F z n k b i).length=n:=by simp[qfa]
theorem q2b{β:Type}(F:Nat->β)(z:β)(n:Nat){k b:Int}(hk:0<=k):qfa F z n k b 0=List.replicate n z:=by
 refine zkv (by simp[qfa]) fun i h1 h2=>?_;have hi:i<n:=by simpa[qfa]using h1
 have:=(qh3 (b:=b) hk (x:=(i:Int)) (n:=n) (by omega) (by omega)).1;simp only[qfa,List.getElem_map,zk0,List.getElem_replicate];rw[if_neg (by omega)]
theorem qsr{β:Type}(F:Nat->β)(z:β)(n:Nat){k b:Int}(hk:0<=k){i:Nat}(hi:i<n):(qfa F z n k b i).set (Sp.qdq (i:Int) n k b).toNat (F i)=qfa F z n k b (i+1):=by
 have ht:=qej (b:=b) hk (x:=(i:Int)) (n:=n) (by omega) (by omega);have hbt:=qjq (b:=b) hk (x:=(i:Int)) (n:=n) (by omega) (by omega);refine zkv (by simp[qfa]) fun j h1 h2=>?_;have hj:j<n:=by simpa[qfa]using h2
 have htb:=qlw (b:=b) hk (x:=(j:Int)) (n:=n) (by omega) (by omega);have hb:=qh3 (b:=b) hk (x:=(j:Int)) (n:=n) (by omega) (by omega);rw[List.getElem_set];simp only[qfa,List.getElem_map,zk0];by_cases e:(Sp.qdq (i:Int) n k b).toNat=j
 ·have e2:Sp.back (j:Int) n k b=i:=by rw[<- e,zk1 ht.1];exact hbt
  rw[if_pos e,e2,if_pos (by omega),zja]
 ·have e2:Sp.back (j:Int) n k b≠i:=fun h=>e (by rw[h]at htb;omega)
  rw[if_neg e];by_cases h:Sp.back (j:Int) n k b<i
  ·rw[if_pos h,if_pos (by omega)]
  ·rw[if_neg h,if_neg (by omega)]
theorem qm6{β:Type}(F:Nat->β)(z:β)(n:Nat){k b:Int}(hk:0<=k):qfa F z n k b n=(List.range n).map fun(j:Nat)=>F (Sp.back (j:Int) n k b).toNat:=by
 unfold qfa;refine zj2 fun j hj=>?_;have hj:=zj3.1 hj;rw[if_pos (qh3 (b:=b) hk (x:=(j:Int)) (n:=n) (by omega) (by omega)).2]
def Sp.zgn(f:Fn)(v:Int)(x:qat):qat:=⟨x.op,if 0<=x.dest then Sp.qdq x.dest f.qaa.length 0 v else x.dest,x.args.map (fun u=>Sp.qdq u f.qaa.length 0 v),x.num,x.mem⟩
def Sp.ziq(f:Fn)(v b:Int)(e:Edge):Edge:=⟨Sp.qdq e.block f.blocks.length 1 b,e.args.map (fun u=>Sp.qdq u f.qaa.length 0 v)⟩
def Sp.q5f(f:Fn)(v b:Int)(x:Block):Block:=⟨x.params.map (fun u=>Sp.qdq u f.qaa.length 0 v),x.insts.map (Sp.zgn f v),⟨x.term.kind,if 0<=x.term.cond then Sp.qdq x.term.cond f.qaa.length 0 v else x.term.cond,x.term.to.map (Sp.ziq f v b),x.term.qax.map (fun u=>Sp.qdq u f.qaa.length 0 v)⟩,x.qar,x.qa9,x.line⟩
def Sp.rot(f:Fn)(v b:Int):Fn:=⟨f.name,qfa (fun i=>f.qaa.getD i 0) 0 f.qaa.length 0 v f.qaa.length,f.qag,f.streams,f.qax,qfa (fun i=>Sp.q5f f v b (f.blocks.getD i Block.z)) Block.z f.blocks.length 1 b f.blocks.length⟩
theorem q9e(f:Fn)(v b:Int):(Sp.rot f v b).qaa=qfa (fun i=>f.qaa.getD i 0) 0 f.qaa.length 0 v f.qaa.length:=rfl
theorem q5e(f:Fn)(v b:Int):(Sp.rot f v b).blocks=qfa (fun i=>Sp.q5f f v b (f.blocks.getD i Block.z)) Block.z f.blocks.length 1 b f.blocks.length:=rfl
theorem qp0(f:Fn)(v b:Int):(Sp.rot f v b).qaa.length=f.qaa.length:=by
 rw[q9e,qjk]
theorem qld(f:Fn)(v b:Int):(Sp.rot f v b).blocks.length=f.blocks.length:=by
 rw[q5e,qjk]
theorem qwr{β:Type}(F:Nat->β)(z:β)(n:Nat){k b:Int}(hk:0<=k){i:Nat}(hi:i<n):(qfa F z n k b n).getD (Sp.qdq (i:Int) n k b).toNat z=F i:=by
 have ht:=qej (b:=b) hk (x:=(i:Int)) (n:=n) (by omega) (by omega);have h2:(Sp.qdq (i:Int) n k b).toNat<(List.range n).length:=by simp;omega
 rw[qm6 F z n hk];simp only[zi5,zkc,zjc h2,zk0,zko,zjv];rw[zk1 ht.1,qjq hk (by omega) (by omega),zja]
theorem qvc{x y n k b:Int}(hk:0<=k)(h0:0<=x)(h1:x<n)(g0:0<=y)(g1:y<n)(h:Sp.qdq x n k b=Sp.qdq y n k b):x=y:=by
 rw[<- qjq (b:=b) hk h0 h1,h,qjq hk g0 g1]
theorem qvq{f:Fn}{B:Block}(v b:Int)(hu:zb3 B)(hd:∀u∈Sp.qco B,0<=u):Sp.q5f f v b B=qx0 (fun u=>Sp.qdq u f.qaa.length 0 v) (fun c=>Sp.qdq c f.blocks.length 1 b) B:=by
 unfold Sp.q5f qx0;have ei:B.insts.map (Sp.zgn f v)=B.insts.map (reI fun u=>Sp.qdq u f.qaa.length 0 v):=zj2 fun x hx=>by
  unfold Sp.zgn reI;cases hn:Sp.named x.op with
  |true=>rw[if_pos (hd _ (zkb _ (qsw hx hn))),if_pos rfl]
  |false=>rw[if_neg (by rw[hu.ds x hx hn];omega),if_neg (by simp)]
 have ec:(if 0<=B.term.cond then Sp.qdq B.term.cond f.qaa.length 0 v else B.term.cond)=if B.term.cond=-1 then(-1:Int)else Sp.qdq B.term.cond f.qaa.length 0 v:=by
  rcases hu.cd with h|h
  ·rw[if_neg (by omega),if_pos h,h]
  ·have:=hd _ h;rw[if_pos this,if_neg (by omega)]
 rw[ei,ec];rfl
theorem q0l{f:Fn}(h:Sp.valid f=true)(v b:Int):Iso f (Sp.rot f v b) (fun u=>Sp.qdq u f.qaa.length 0 v) (fun c=>Sp.qdq c f.blocks.length 1 b) (f.blocks.flatMap Sp.qco) ((List.range f.blocks.length).map fun(i:Nat)=>(i:Int)):=by
 have hd:=qeq h;have hv:=qev h;obtain⟨w1,w2,w3,w4⟩:=qep h;have hO:∀c,c∈((List.range f.blocks.length).map fun(i:Nat)=>(i:Int))↔0<=c/\c<f.blocks.length:=fun c=>by
  constructor
  ·intro hc;obtain⟨i,hi,rfl⟩:=zjz.1 hc;have:=zj3.1 hi;omega
  ·intro hc;exact zjz.2 ⟨c.toNat,zj3.2 (by omega),by omega⟩
 have hl1:=qp0 f v b;have hl2:=qld f v b;refine⟨rfl,rfl,rfl,rfl,fun u hu=>?_,fun u hu=>hd.2.1 u hu,fun u hu w hw e=>?_,fun c hc e he heq=>?_,fun c hc=>(hO c).1 hc,fun c hc=>?_,(hO 0).2 (by omega),?_,fun c hc=>?_,fun c hc e he=>?_,fun c hc u hu=>?_⟩
 ·have r:=hd.2.1 u hu;have ht:=qej (b:=v) (k:=0) (by omega) r.1 r.2;refine⟨?_,ht.1,by rw[hl1];exact ht.2⟩
  have:=qwr (fun i=>f.qaa.getD i 0) (0:Int) f.qaa.length (k:=0) (b:=v) (by omega) (i:=u.toNat) (by omega);rw[zk1 r.1]at this;exact this
 ·have r:=hd.2.1 u hu;have r2:=hd.2.1 w hw;have t1:=qej (b:=v) (k:=0) (by omega) r.1 r.2;have t2:=qej (b:=v) (k:=0) (by omega) r2.1 r2.2;have e2:(Sp.qdq u f.qaa.length 0 v).toNat=(Sp.qdq w f.qaa.length 0 v).toNat:=e;exact qvc (k:=0) (b:=v) (by omega) r.1 r.2 r2.1 r2.2 (by omega)
 ·have r:=(hO c).1 hc;have r2:=(hO e).1 he;exact qvc (k:=1) (b:=b) (by omega) r.1 r.2 r2.1 r2.2 heq
 ·have r:=(hO c).1 hc;rw[hl2];exact qej (by omega) r.1 r.2
 ·show Sp.qdq 0 f.blocks.length 1 b=0;unfold Sp.qdq;rw[if_pos (by omega)]
 ·have r:=(hO c).1 hc;have:=qwr (fun i=>Sp.q5f f v b (f.blocks.getD i Block.z)) Block.z f.blocks.length (k:=1) (b:=b) (by omega) (i:=c.toNat) (by omega);rw[zk1 r.1]at this;refine Eq.trans this ?_;exact qvq v b (hv.use c.toNat (by omega)) fun u hu=>(hd.2.1 u (zks.2 ⟨_,qcx (by omega),hu⟩)).1
 ·have r:=(hO c).1 hc;exact(hO _).2 (hv.es c.toNat (by omega) e he)
 ·have r:=(hO c).1 hc;exact zks.2 ⟨_,qcx (by omega),hu⟩
theorem q0m{f:Fn}(h:Sp.valid f=true)(v b:Int):Sp.canon (Sp.rot f v b)=Sp.canon f:=q23 (q0l h v b) (qev h) (qld f v b)
theorem q5d{f:Fn}(h:Sp.valid f=true)(v b:Int):Sp.qm1 (Sp.rot f v b)=true:=by
 have hl1:=qp0 f v b;have hl2:=qld f v b;simp only[Sp.valid,zi4]at h;have hh:=h.1;unfold Sp.qm1 at hh ⊢;have em:Sp.qjc (Sp.rot f v b)=Sp.qjc f:=rfl;rw[em,hl2];simp only[zi4,Sp.qaa,zjm]at hh ⊢;obtain⟨⟨⟨⟨⟨a1,a2⟩,a3⟩,a4⟩,a5⟩,a6⟩:=hh;refine⟨⟨⟨⟨⟨a1,a2⟩,fun w hw=>?_,by rw[hl1];exact a3.2⟩,a4⟩,a5⟩,a6⟩
 obtain⟨j,hj,rfl⟩:=zjz.1 (show w∈(List.range f.qaa.length).map _ from hw);have hj:=zj3.1 hj;have hb:=qh3 (b:=v) (k:=0) (by omega) (x:=(j:Int)) (n:=f.qaa.length) (by omega) (by omega);rw[if_pos hb.2];refine a3.1 _ ?_;show f.qaa.getD _ 0∈f.qaa;rw[zi5,zjc (by omega)];exact zj1 _
theorem q0k{f:Fn}(h:Sp.valid f=true)(v b:Int):Sp.valid (Sp.rot f v b)=true:=by
 have hO:∀j,j∈List.range f.blocks.length->0<=Sp.back (j:Int) f.blocks.length 1 b/\Sp.back (j:Int) f.blocks.length 1 b<f.blocks.length:=fun j hj=>by
  have:=zj3.1 hj;exact qh3 (by omega) (by omega) (by omega)
 have hv:=qev h;have hd:=qeq h;refine qy0 (q0l h v b) h (q5d h v b) ((List.range f.blocks.length).map fun(j:Nat)=>Sp.back (j:Int) f.blocks.length 1 b) (fun c hc=>?_) ?_ ?_
 ·obtain⟨j,hj,rfl⟩:=zjz.1 hc;have:=hO j hj;exact zjz.2 ⟨(Sp.back (j:Int) f.blocks.length 1 b).toNat,zj3.2 (by omega),by omega⟩
 ·rw[q5e,qm6 _ _ _ (k:=1) (by omega),zkj];refine zj2 fun j hj=>?_;have:=hO j hj;exact qvq v b (hv.use _ (by omega)) fun u hu=>(hd.2.1 u (zks.2 ⟨_,qcx (by omega),hu⟩)).1
 ·refine qne f hd.1 _ ?_ fun c hc=>?_
  ·refine List.pairwise_map.2 (List.nodup_range.imp_of_mem fun {i j} hi hj hne e=>hne ?_);have hi:=zj3.1 hi;have hj:=zj3.1 hj;have t1:=qlw (b:=b) (k:=1) (by omega) (x:=(i:Int)) (n:=f.blocks.length) (by omega) (by omega);have t2:=qlw (b:=b) (k:=1) (by omega) (x:=(j:Int)) (n:=f.blocks.length) (by omega) (by omega);rw[e,t2]at t1;omega
  ·obtain⟨j,hj,rfl⟩:=zjz.1 hc;exact hO j hj
theorem qss{β:Type}{F:Nat->β}{z:β}{n:Nat}{k b:Int}(hk:0<=k){y:β}(h:y∈qfa F z n k b n):∃i,i<n/\y=F i:=by
 rw[qm6 F z n hk]at h;obtain⟨j,hj,rfl⟩:=zjz.1 h;have hj:=zj3.1 hj;have hb:=qh3 (b:=b) hk (x:=(j:Int)) (n:=n) (by omega) (by omega);exact⟨_,by omega,rfl⟩
theorem zdo{f:Fn}(hf:f.ok)(h:Sp.valid f=true)(v b:Int):(Sp.rot f v b).ok:=by
 obtain⟨w1,w2,w3,w4⟩:=qep h;have rr:=qpn hf h;have hl1:=qp0 f v b;have hl2:=qld f v b;obtain⟨o1,o2,o3,o4,o5,o6⟩:=hf;have hd:=qeq h;have hv:=qev h;have ht:∀ {u n k b:Int},0<=k->0<=u->u<n->n<=65536->I64 (Sp.qdq u n k b):=fun {u n k b} hk h0 h1 hn=>by
  have:=qej (b:=b) hk h0 h1;unfold I64;omega
 refine⟨o1,⟨by rw[hl1];exact o2.1,fun w hw=>?_⟩,o3,o4,o5,⟨by rw[hl2];exact o6.1,fun B hB=>?_⟩⟩
 ·obtain⟨i,hi,rfl⟩:=qss (k:=0) (by omega) (q9e f v b▸hw);refine o2.2 _ ?_;simp only[zi5,zjc hi];exact zj1 _
 ·obtain⟨i,hi,rfl⟩:=qss (k:=1) (by omega) (q5e f v b▸hB);have hdi:∀u∈Sp.qco (f.blocks.getD i Block.z),0<=u/\u<(f.qaa.length:Int):=fun u hu=>hd.2.1 u (zks.2 ⟨_,qcx hi,hu⟩);have hu:=hv.use i hi;have hes:=hv.es i hi;obtain⟨p1,p2,p3,p4,p5,p6⟩:=o6.2 _ (qcx (f:=f) (i:=i) hi);generalize f.blocks.getD i Block.z=B at p1 p2 p3 p4 p5 p6 hdi hu hes ⊢;obtain⟨t1,t2,t3,t4⟩:=p3;have kt:∀u∈Sp.qco B,I64 (Sp.qdq u f.qaa.length 0 v):=fun u hu=>ht (by omega) (hdi u hu).1 (hdi u hu).2 (by omega);refine⟨p1.map fun u hu _=>kt u (zjs _ hu),p2.map fun x hx hxo=>?_,⟨t1,?_,t3.map fun e he heo=>?_,t4.map fun u hu' _=>kt u (hu.rs u hu')⟩,p4,p5,p6⟩
  ·obtain⟨x1,x2,x3,x4,x5⟩:=hxo;refine⟨x1,?_,x3.map fun u hu' _=>kt u (qg4 _ _ hu.is x hx u hu'),x4,x5⟩;show I64 (if _ then _ else _);split
   ·rename_i h0;cases hn:Sp.named x.op with
    |true=>exact kt _ (zkb _ (qsw hx hn))
    |false=>have:=hu.ds x hx hn;omega
   ·exact x2
  ·show I64 (if _ then _ else _);split
   ·rename_i h0;rcases hu.cd with h|h
    ·omega
    ·exact kt _ h
   ·exact t2
  ·have he2:=hes e he;exact⟨ht (by omega) he2.1 he2.2 (by omega),heo.2.map fun u hu' _=>kt u (hu.es e he u hu')⟩
end
end Go.Abs
namespace Go.Abs
open Go Go.Proofs
noncomputable section
def sh142:List OSh:=[(.box 30 (.st 6)),(.box 30 (.st 6)),(.cells 30 [.s,(.full 3),(.fz (.st 4)),(.fz (.st 5)),(.fz (.int .i64)),(.fz (.st 3))]),(.lst 3 (.int .i64))]
def sh143:List OSh:=[(.box 30 (.st 6)),(.box 30 (.st 6)),(.cells 30 [.s,(.full 5),(.fz (.st 4)),(.fz (.st 5)),(.fz (.int .i64)),(.full 6)]),(.cells 41 [(.full 7),(.fz (.st 0)),(.i .i64),(.i .i64),(.fz (.st 1)),(.fz (.int .i64)),(.i .i64),(.i .i64),(.i .i64)]),(.lst 46 (.st 0)),(.lst 3 (.int .i64)),(.lst 41 (.st 3)),(.lst 3 (.int .i64))]
def sh144:List OSh:=[(.box 30 (.st 6)),(.box 30 (.st 6)),(.cells 30 [.s,(.full 5),(.fz (.st 4)),(.fz (.st 5)),(.fz (.int .i64)),(.full 6)]),(.cells 41 [(.full 7),(.full 8),(.i .i64),(.i .i64),(.fz (.st 1)),(.full 9),(.i .i64),(.i .i64),(.i .i64)]),(.lst 51 (.st 1)),(.lst 3 (.int .i64)),(.lst 41 (.st 3)),(.lst 3 (.int .i64)),(.lst 46 (.st 0)),(.lst 3 (.int .i64))]
def sh145:List OSh:=[(.box 30 (.st 6)),(.cells 134 [(.qca 2)]),(.mp true .bool)]
def sh146:List OSh:=[(.cells 107 [.s,(.fz (.int .i64)),(.fz (.st 4)),(.fz (.st 5)),(.fz (.int .i64)),(.fz (.st 3)),(.full 1),(.full 2)]),(.lst 4 .bool),(.lst 3 (.int .i64))]
def sh147:List OSh:=[(.cells 107 [.s,(.fz (.int .i64)),(.fz (.st 4)),(.fz (.st 5)),(.fz (.int .i64)),(.fz (.st 3)),(.full 1),(.full 2)]),(.lst 4 .bool),(.lst 3 (.int .i64)),(.box 46 (.st 0))]
def sh125:SSh:=⟨[(0,(.fz (.int .i64))),(1,(.i .i64)),(2,(.i .i64)),(7,(.full 0)),(8,(.i .i64))],[(.lst 3 (.int .i64))]⟩
def sh126:SSh:=⟨[(2,(.ptr 0 0)),(4,(.ptr 1 0)),(5,(.i .i64)),(6,(.i .i64)),(7,(.i .i64)),(8,(.i .i64)),(9,(.ptr 2 0))],sh142⟩
def sh127:SSh:=⟨[(2,(.ptr 0 0)),(4,(.ptr 1 0)),(5,(.i .i64)),(6,(.i .i64)),(7,(.i .i64)),(8,(.i .i64)),(9,(.ptr 2 0)),(10,(.i .i64))],sh142⟩
def sh128:SSh:=⟨[(4,(.ptr 0 0)),(9,(.ptr 1 0))],[(.box 30 (.st 6)),(.cells 30 [.s,(.full 2),(.fz (.st 4)),(.fz (.st 5)),(.fz (.int .i64)),(.full 3)]),(.lst 3 (.int .i64)),(.lst 41 (.st 3))]⟩
def sh129:SSh:=⟨[(2,(.ptr 0 0)),(4,(.ptr 1 0)),(5,(.i .i64)),(6,(.i .i64)),(7,(.i .i64)),(8,(.i .i64)),(9,(.ptr 2 0)),(11,(.i .i64))],[(.box 30 (.st 6)),(.box 30 (.st 6)),(.cells 30 [.s,(.full 3),(.fz (.st 4)),(.fz (.st 5)),(.fz (.int .i64)),(.full 4)]),(.lst 3 (.int .i64)),(.lst 41 (.st 3))]⟩
def sh130:SSh:=⟨[(2,(.ptr 0 0)),(4,(.ptr 1 0)),(5,(.i .i64)),(6,(.i .i64)),(7,(.i .i64)),(8,(.i .i64)),(9,(.ptr 2 0)),(11,(.i .i64)),(12,(.ptr 3 0)),(13,(.full 4))],sh143⟩
def sh131:SSh:=⟨[(2,(.ptr 0 0)),(4,(.ptr 1 0)),(5,(.i .i64)),(6,(.i .i64)),(7,(.i .i64)),(8,(.i .i64)),(9,(.ptr 2 0)),(11,(.i .i64)),(12,(.ptr 3 0)),(13,(.full 4)),(14,(.i .i64))],sh143⟩
def sh132:SSh:=⟨[(2,(.ptr 0 0)),(4,(.ptr 1 0)),(5,(.i .i64)),(6,(.i .i64)),(7,(.i .i64)),(8,(.i .i64)),(9,(.ptr 2 0)),(11,(.i .i64)),(12,(.ptr 3 0)),(16,(.full 4))],sh144⟩
def sh133:SSh:=⟨[(2,(.ptr 0 0)),(4,(.ptr 1 0)),(5,(.i .i64)),(6,(.i .i64)),(7,(.i .i64)),(8,(.i .i64)),(9,(.ptr 2 0)),(11,(.i .i64)),(12,(.ptr 3 0)),(16,(.full 4)),(17,(.i .i64))],sh144⟩
def sh134:SSh:=⟨[(14,(.fz (.int .u8))),(15,(.i .i64)),(16,(.i .i64))],[]⟩
def sh135:SSh:=⟨[(0,(.fz (.int .i64))),(1,(.fn 82 [])),(7,(.i .i64)),(8,(.i .i64))],[]⟩
def sh136:SSh:=⟨[(1,(.ptr 0 0)),(4,(.fn 118 [(.ptr 1 0)]))],sh145⟩
def sh137:SSh:=⟨[(1,(.ptr 0 0)),(4,(.fn 118 [(.ptr 1 0)])),(12,(.fz (.st 4))),(13,(.i .i64)),(14,(.i .i64))],sh145⟩
def sh138:SSh:=⟨[(1,(.ptr 0 0)),(4,(.fn 118 [(.ptr 1 0)])),(46,(.fz (.st 5))),(47,(.i .i64)),(48,(.i .i64))],sh145⟩
def sh139:SSh:=⟨[],sh146⟩
def sh140:SSh:=⟨[(0,(.ptr 0 0)),(2,(.i .i64)),(9,(.fz (.int .i64))),(10,(.i .i64)),(11,(.i .i64))],sh146⟩
def sh141:SSh:=⟨[(0,(.ptr 0 0)),(3,(.ptr 3 0))],sh147⟩
abbrev ty111:=(ByteArray×((List Int)×((List Arr)×((List qbd)×((List Int)×((List Block)×(Unit×(Unit×Unit))))))))
abbrev ty112:=(ByteArray×(Unit×((List Arr)×((List qbd)×((List Int)×(Unit×Unit))))))
abbrev ty113:=(Fn×(Fn×(ty112×((Unit×((List qat)×(Int×(Int×((List Edge)×((List Int)×(Int×(Int×(Int×Unit)))))))))×((List qat)×((List Int)×((List Block)×((List Int)×Unit))))))))
abbrev ty114:=(Fn×(Fn×(ty112×((Unit×(Unit×(Int×(Int×((List Edge)×(Unit×(Int×(Int×(Int×Unit)))))))))×((List Edge)×((List Int)×((List Block)×((List Int)×((List qat)×((List Int)×Unit))))))))))
abbrev ty115:=(ty111×((List Bool)×((List Int)×Unit)))
abbrev ty116:=(Unit×(Unit×(Int×(Int×(Int×(Int×(Unit×(Int×(Unit×(Unit×(Int×Unit)))))))))))
abbrev ty117:=(Unit×(Unit×(Int×(Int×(Int×(Int×(Unit×(Int×Unit))))))))
abbrev ty118:=(Fn×(Fn×((ByteArray×(Unit×((List Arr)×((List qbd)×((List Int)×((List Block)×Unit))))))×((List Int)×Unit))))
abbrev ty119:=((Unit×Unit)×((qb1->(Option Bool))×Unit))
abbrev ty120:=(ty112×((List Int)×((List Block)×Unit)))
abbrev ty121:=(Unit×(Unit×(Int×(Int×(Int×(Int×(Unit×(Int×(Unit×(Unit×Unit))))))))))
abbrev ty122:=((List Int)×(Int×(Int×Unit)))
abbrev ty123:=((Unit×((Unit×Unit)×((List qbd)×(Int×(Int×Unit)))))×(Fn×ty119))
abbrev ty124:=((Unit×((Unit×Unit)×((List Arr)×(Int×(Int×Unit)))))×(Fn×ty119))
def ann86:Ann:=(.seq .o (.join ⟨[(0,(.i .i64)),(1,(.i .i64)),(2,(.i .i64)),(3,(.i .i64))],[]⟩ (.seq .o (.cond (.seq .o .o) .o)) (.seq .o .o)))
def go86(x0:Int)(x1:Int)(x2:Int)(x3:Int):(Option (Int×Unit)):=(bif(decide (x0<x2))then(some (x0,()))else(bif(decide (x1<=x2))then(some (x0,()))else(grd (okB (((-9223372036854775808)<=(x0-x2))/\((x0-x2)<=9223372036854775807))) (grd (okB (((-9223372036854775808)<=((x0-x2)+x3))/\(((x0-x2)+x3)<=9223372036854775807))) (grd (okB (((-9223372036854775808)<=(x1-x2))/\((x1-x2)<=9223372036854775807))) (grd (!(decide ((x1-x2)=0))) (grd (okB (((-9223372036854775808)<=(x2+(Int.tmod ((x0-x2)+x3) (x1-x2))))/\((x2+(Int.tmod ((x0-x2)+x3) (x1-x2)))<=9223372036854775807))) (some ((x2+(Int.tmod ((x0-x2)+x3) (x1-x2))),())))))))))
theorem run86(x0:Int)(x1:Int)(x2:Int)(x3:Int):qdd (P:=Try.prog) [] Try.f86 ann86 [(0,(.i .i64)),(1,(.i .i64)),(2,(.i .i64)),(3,(.i .i64))] [] (.i .i64) [] (x0,(x1,(x2,(x3,())))) ()=go86 x0 x1 x2 x3:=by kernel_rfl
def Rg4(x n k b:Int):Prop:=(0<=x/\x<=1000000)/\(0<=n/\n<=1000000)/\(0<=k/\k<=1000000)/\0<=b/\b<=1000000
theorem ok86(x n k b:Int)(h:Rg4 x n k b):go86 x n k b=some (Sp.qdq x n k b,()):=by
 obtain⟨⟨h1,h2⟩,⟨h3,h4⟩,⟨h5,h6⟩,h7,h8⟩:=h;unfold go86 Sp.qdq;by_cases e1:x<k
 ·simp only[e1,decide_true,cond_true,true_or,if_true]
 ·by_cases e2:n<=k
  ·simp only[e1,e2,decide_true,decide_false,cond_true,cond_false,or_true,if_true]
  ·have et:Int.tmod (x-k+b) (n-k)=(x-k+b) % (n-k):=Int.tmod_eq_emod_of_nonneg (by omega);have a:=Int.emod_nonneg (x-k+b) (show n-k≠0 by omega);have c:=Int.emod_lt_of_pos (x-k+b) (show 0<n-k by omega);simp only[e1,e2,decide_false,cond_false,or_self,if_false,et];have g1:okB ((-9223372036854775808:Int)<=x-k/\x-k<=9223372036854775807)=true:=qkp (by omega);have g2:okB ((-9223372036854775808:Int)<=x-k+b/\x-k+b<=9223372036854775807)=true:=qkp (by omega);have g3:okB ((-9223372036854775808:Int)<=n-k/\n-k<=9223372036854775807)=true:=qkp (by omega);have g4:(!decide (n-k=0))=true:=by simp;omega
   have g5:okB ((-9223372036854775808:Int)<=k+(x-k+b) % (n-k)/\k+(x-k+b) % (n-k)<=9223372036854775807)=true:=qkp (by omega);simp only[g1,g2,g3,g4,g5,qba]
def c86:Ctr Try.prog:=qbl 86 Try.f86 Try.func86 [] ann86 [(0,(.i .i64)),(1,(.i .i64)),(2,(.i .i64)),(3,(.i .i64))] [] (.i .i64) [] (fun x _=>grd (okB (Rg4 x.1 x.2.1 x.2.2.1 x.2.2.2.1)) (some (Sp.qdq x.1 x.2.1 x.2.2.1 x.2.2.2.1,()))) (fun x _ r h=>FO (run86 x.1 x.2.1 x.2.2.1 x.2.2.2.1) (ok86 x.1 x.2.1 x.2.2.1 x.2.2.2.1) h)
end
end Go.Abs
namespace Go.Abs
open Go Go.Proofs
noncomputable section
def ann87:Ann:=(.seq .o (.seq .o (.join ⟨[(7,(.full 0))],[(.lst 3 (.int .i64))]⟩ (.seq .o (.block (.loop sh125 [((.exit 0),⟨[(7,(.full 0))],[(.lst 3 (.int .i64))]⟩)] (.join sh125 (.seq .o (.cond .o .o)) (.join sh125 (.block .o) .o))))) (.seq .o .o))))
def go87_l1:(((List Int)×(Int×(Int×(Unit×(Int×Unit)))))×((List Int)×Unit))->Option ((((List Int)×(Int×(Int×(Unit×(Int×Unit)))))×((List Int)×Unit))⊕((Unit×Unit)×((List Int)×Unit))):=(fun r0=>(bif(decide (r0.1.2.2.2.2.1<(r0.1.1.length:Int)))then(grd (okB ((0<=r0.1.2.2.2.2.1)/\(r0.1.2.2.2.2.1<(r0.1.1.length:Int)))) (qaj (grd (okB (Rg4 (r0.1.1.getD r0.1.2.2.2.2.1.toNat 0) r0.1.2.1 0 r0.1.2.2.1)) (some ((Sp.qdq (r0.1.1.getD r0.1.2.2.2.2.1.toNat 0) r0.1.2.1 0 r0.1.2.2.1),()))) (fun r1=>(grd (okB ((((r0.2.1.length+1)*8)<=140737488355328)/\((r0.2.1.length+1)<=281474976710656))) (grd (okB (((-9223372036854775808)<=(r0.1.2.2.2.2.1+1))/\((r0.1.2.2.2.2.1+1)<=9223372036854775807))) (some (Sum.inl ((r0.1.1,(r0.1.2.1,(r0.1.2.2.1,((),((r0.1.2.2.2.2.1+1),()))))),((r0.2.1++(r1.1::([]:List Int))),())))))))))else(some (Sum.inr (((),()),(r0.2.1,()))))))
def go87(x0:(List Int))(x1:Int)(x2:Int):(Option (Unit×((List Int)×Unit))):=(qaj (qap (go87_l1) ((x0,(x1,(x2,((),(0,()))))),(([]:List Int),()))) (fun z0=>(some ((),(z0.2.1,())))))
theorem run87(x0:(List Int))(x1:Int)(x2:Int):qdd (P:=Try.prog) [c86] Try.f87 ann87 [(0,(.fz (.int .i64))),(1,(.i .i64)),(2,(.i .i64))] [] (.full 0) [(.lst 3 (.int .i64))] (x0,(x1,(x2,()))) ()=go87 x0 x1 x2:=by kernel_rfl
def Rg5(l:List Int)(n b:Int):Prop:=l.length<=100000/\(∀v∈l,0<=v/\v<=1000000)/\(0<=n/\n<=1000000)/\0<=b/\b<=1000000
theorem ok87(l:List Int)(n b:Int)(h:Rg5 l n b):go87 l n b=some ((),(l.map (fun u=>Sp.qdq u n 0 b),())):=by
 obtain⟨hl,hv,hn,hb⟩:=h;have key:qap go87_l1 ((l,(n,(b,((),((0:Int),()))))),(([]:List Int),()))=some (((),()),(l.map (fun u=>Sp.qdq u n 0 b),())):=?_
 ·unfold go87;rw[key];rfl
 refine qcj (st:=fun i=>((l,(n,(b,((),((i:Int),()))))),((l.take i).map (fun u=>Sp.qdq u n 0 b),()))) rfl l.length (fun i hi=>?_) ?_
 ·have hm:l.getD i 0∈l:=by
   rw[zi5,zjc hi];exact zj1 hi
  have hr:Rg4 (l.getD i 0) n 0 b:=⟨hv _ hm,hn,by omega,hb⟩
  have hlen:((l.take i).map (fun u=>Sp.qdq u n 0 b)).length=i:=by simp[Nat.le_of_lt hi]
  rw[qiz hi 0,zkw];unfold go87_l1;simp only[zja,qak hr,qaf];simp(maxSteps:=1000000) (disch:=((try dsimp only);omega)) only[↓gsA,gsB]
  rfl
 ·unfold go87_l1;rw[List.take_length];simp(maxSteps:=1000000) (disch:=((try dsimp only);omega)) only[↓gsA,gsB]
def c87:Ctr Try.prog:=qbl 87 Try.f87 Try.func87 [c86] ann87 [(0,(.fz (.int .i64))),(1,(.i .i64)),(2,(.i .i64))] [] (.full 0) [(.lst 3 (.int .i64))] (fun x _=>grd (okB (Rg5 x.1 x.2.1 x.2.2.1)) (some ((),(x.1.map (fun u=>Sp.qdq u x.2.1 0 x.2.2.1),())))) (fun x _ r h=>FO (run87 x.1 x.2.1 x.2.2.1) (ok87 x.1 x.2.1 x.2.2.1) h)
end
end Go.Abs
namespace Go.Abs
open Go Go.Proofs
noncomputable section
def ann34:Ann:=(.seq .o (.seq .o (.seq .o (.seq .o (.join sh126 (.seq .o (.block (.loop sh127 [((.exit 0),sh126)] (.join sh127 (.seq .o (.cond .o .o)) (.join sh127 (.block .o) .o))))) (.seq .o (.join sh128 (.seq .o (.block (.loop sh129 [((.exit 2),sh128)] (.join sh129 (.seq .o (.cond .o .o)) (.join sh129 (.block (.seq .o (.seq .o (.seq .o (.join sh130 (.seq .o (.block (.loop sh131 [((.exit 4),sh130)] (.join sh131 (.seq .o (.cond .o .o)) (.join sh131 (.block (.seq .o (.seq .o (.join ⟨[(2,(.ptr 0 0)),(4,(.ptr 1 0)),(5,(.i .i64)),(6,(.i .i64)),(7,(.i .i64)),(8,(.i .i64)),(9,(.ptr 2 0)),(11,(.i .i64)),(12,(.ptr 3 0)),(13,(.full 4)),(14,(.i .i64)),(15,(.ptr 5 0))],[(.box 30 (.st 6)),(.box 30 (.st 6)),(.cells 30 [.s,(.full 6),(.fz (.st 4)),(.fz (.st 5)),(.fz (.int .i64)),(.full 7)]),(.cells 41 [(.full 8),(.fz (.st 0)),(.i .i64),(.i .i64),(.fz (.st 1)),(.fz (.int .i64)),(.i .i64),(.i .i64),(.i .i64)]),(.lst 46 (.st 0)),(.cells 46 [(.i .i64),(.i .i64),(.full 9),(.i .u64),(.i .i64)]),(.lst 3 (.int .i64)),(.lst 41 (.st 3)),(.lst 3 (.int .i64)),(.lst 3 (.int .i64))]⟩ (.seq .o (.cond .o .o)) .o)))) .o))))) (.seq .o (.seq .o (.join ⟨[(2,(.ptr 0 0)),(4,(.ptr 1 0)),(5,(.i .i64)),(6,(.i .i64)),(7,(.i .i64)),(8,(.i .i64)),(9,(.ptr 2 0)),(11,(.i .i64)),(12,(.ptr 3 0))],[(.box 30 (.st 6)),(.box 30 (.st 6)),(.cells 30 [.s,(.full 4),(.fz (.st 4)),(.fz (.st 5)),(.fz (.int .i64)),(.full 5)]),(.cells 41 [(.full 6),(.full 7),(.i .i64),(.i .i64),(.fz (.st 1)),(.full 8),(.i .i64),(.i .i64),(.i .i64)]),(.lst 3 (.int .i64)),(.lst 41 (.st 3)),(.lst 3 (.int .i64)),(.lst 46 (.st 0)),(.lst 3 (.int .i64))]⟩ (.seq .o (.cond .o .o)) (.seq .o (.join sh132 (.seq .o (.block (.loop sh133 [((.exit 6),sh132)] (.join sh133 (.seq .o (.cond .o .o)) (.join sh133 (.block (.x ⟨false,false,false,false,[],[],[0,0,2,6,0,30,62,126,0,0,1022,0,2048,6144,0,30720,63488,129024,0,0,1048574,2097150,4194302,8388607,16777215],(.fl 0 (.qu [1,2,3,4,5,6,7,8,9,10,11,12,13,14,15,16,17,18,19] (.on 20 (.qu [21] (.on 22 (.on 23 (.qu [24] .nil)))))))⟩)) .o))))) (.seq .o (.x ⟨false,false,true,false,[],[],[],.no⟩)))))))))))) .o))))) (.seq .o .o))))))))
def go34_l4:(ty116×ty114)->Option ((ty116×ty114)⊕(ty121×ty114)):=(fun r3=>(bif(decide (r3.1.2.2.2.2.2.2.2.2.2.2.1<(r3.2.2.2.2.1.2.2.2.2.1.length:Int)))then(grd (okB ((0<=r3.1.2.2.2.2.2.2.2.2.2.2.1)/\(r3.1.2.2.2.2.2.2.2.2.2.2.1<(r3.2.2.2.2.1.2.2.2.2.1.length:Int)))) (qaj (grd (okB (Rg4 (r3.2.2.2.2.1.2.2.2.2.1.getD r3.1.2.2.2.2.2.2.2.2.2.2.1.toNat Edge.z).block r3.1.2.2.2.1 1 r3.1.2.2.2.2.2.1)) (some ((Sp.qdq (r3.2.2.2.2.1.2.2.2.2.1.getD r3.1.2.2.2.2.2.2.2.2.2.2.1.toNat Edge.z).block r3.1.2.2.2.1 1 r3.1.2.2.2.2.2.1),()))) (fun r4=>(grd (okB ((0<=r3.1.2.2.2.2.2.2.2.2.2.2.1)/\(r3.1.2.2.2.2.2.2.2.2.2.2.1<(r3.2.2.2.2.1.2.2.2.2.1.length:Int)))) (qaj (grd (okB (Rg5 (r3.2.2.2.2.1.2.2.2.2.1.getD r3.1.2.2.2.2.2.2.2.2.2.2.1.toNat Edge.z).args r3.1.2.2.1 r3.1.2.2.2.2.1)) (some ((),((@List.map Int Int (fun u0=>(Sp.qdq u0 r3.1.2.2.1 0 r3.1.2.2.2.2.1)) (r3.2.2.2.2.1.2.2.2.2.1.getD r3.1.2.2.2.2.2.2.2.2.2.2.1.toNat Edge.z).args),())))) (fun r5=>(grd (okB ((((r3.2.2.2.2.2.1.length+1)*32)<=140737488355328)/\((r3.2.2.2.2.2.1.length+1)<=281474976710656))) (grd (okB (((-9223372036854775808)<=(r3.1.2.2.2.2.2.2.2.2.2.2.1+1))/\((r3.1.2.2.2.2.2.2.2.2.2.2.1+1)<=9223372036854775807))) (some (Sum.inl (((),((),(r3.1.2.2.1,(r3.1.2.2.2.1,(r3.1.2.2.2.2.1,(r3.1.2.2.2.2.2.1,((),(r3.1.2.2.2.2.2.2.2.1,((),((),((r3.1.2.2.2.2.2.2.2.2.2.2.1+1),()))))))))))),(r3.2.1,(r3.2.2.1,((r3.2.2.2.1.1,((),(r3.2.2.2.1.2.2.1,(r3.2.2.2.1.2.2.2.1,(r3.2.2.2.1.2.2.2.2.1,((),())))))),(((),((),(r3.2.2.2.2.1.2.2.1,(r3.2.2.2.2.1.2.2.2.1,(r3.2.2.2.2.1.2.2.2.2.1,((),(r3.2.2.2.2.1.2.2.2.2.2.2.1,(r3.2.2.2.2.1.2.2.2.2.2.2.2.1,(r3.2.2.2.2.1.2.2.2.2.2.2.2.2.1,()))))))))),((r3.2.2.2.2.2.1++((Edge.mk r4.1 r5.2.1)::([]:List Edge))),(r3.2.2.2.2.2.2.1,(r3.2.2.2.2.2.2.2.1,(r3.2.2.2.2.2.2.2.2.1,(r3.2.2.2.2.2.2.2.2.2.1,(r3.2.2.2.2.2.2.2.2.2.2.1,())))))))))))))))))))))else(some (Sum.inr (((),((),(r3.1.2.2.1,(r3.1.2.2.2.1,(r3.1.2.2.2.2.1,(r3.1.2.2.2.2.2.1,((),(r3.1.2.2.2.2.2.2.2.1,((),((),())))))))))),(r3.2.1,(r3.2.2.1,((r3.2.2.2.1.1,((),(r3.2.2.2.1.2.2.1,(r3.2.2.2.1.2.2.2.1,(r3.2.2.2.1.2.2.2.2.1,((),())))))),(((),((),(r3.2.2.2.2.1.2.2.1,(r3.2.2.2.2.1.2.2.2.1,(r3.2.2.2.2.1.2.2.2.2.1,((),(r3.2.2.2.2.1.2.2.2.2.2.2.1,(r3.2.2.2.2.1.2.2.2.2.2.2.2.1,(r3.2.2.2.2.1.2.2.2.2.2.2.2.2.1,()))))))))),(r3.2.2.2.2.2.1,(r3.2.2.2.2.2.2.1,(r3.2.2.2.2.2.2.2.1,(r3.2.2.2.2.2.2.2.2.1,(r3.2.2.2.2.2.2.2.2.2.1,(r3.2.2.2.2.2.2.2.2.2.2.1,())))))))))))))))
def go34_j2:((Unit×(Unit×(Int×(Int×(Int×(Int×(Unit×(Int×(Unit×Unit)))))))))×(Fn×(Fn×(ty112×((Unit×(Unit×(Int×(Int×((List Edge)×(Unit×(Int×(Int×(Int×Unit)))))))))×((List Int)×((List Block)×((List Int)×((List qat)×((List Int)×Unit))))))))))->Option ((ty117×(Fn×(Fn×ty120)))⊕((Unit×(Unit×Unit))×(Fn×ty120))):=(fun z2=>(qaj (qap (go34_l4) (((),((),(z2.1.2.2.1,(z2.1.2.2.2.1,(z2.1.2.2.2.2.1,(z2.1.2.2.2.2.2.1,((),(z2.1.2.2.2.2.2.2.2.1,((),((),(0,()))))))))))),(z2.2.1,(z2.2.2.1,((z2.2.2.2.1.1,((),(z2.2.2.2.1.2.2.1,(z2.2.2.2.1.2.2.2.1,(z2.2.2.2.1.2.2.2.2.1,((),())))))),(((),((),(z2.2.2.2.2.1.2.2.1,(z2.2.2.2.2.1.2.2.2.1,(z2.2.2.2.2.1.2.2.2.2.1,((),(z2.2.2.2.2.1.2.2.2.2.2.2.1,(z2.2.2.2.2.1.2.2.2.2.2.2.2.1,(z2.2.2.2.2.1.2.2.2.2.2.2.2.2.1,()))))))))),(([]:List Edge),(z2.2.2.2.2.2.1,(z2.2.2.2.2.2.2.1,(z2.2.2.2.2.2.2.2.1,(z2.2.2.2.2.2.2.2.2.1,(z2.2.2.2.2.2.2.2.2.2.1,())))))))))))) (fun z3=>(qaj (grd (okB (Rg4 z3.1.2.2.2.2.2.2.2.1 z3.1.2.2.2.1 1 z3.1.2.2.2.2.2.1)) (some ((Sp.qdq z3.1.2.2.2.2.2.2.2.1 z3.1.2.2.2.1 1 z3.1.2.2.2.2.2.1),()))) (fun r3=>(grd (okB ((0<=r3.1)/\(r3.1<(z3.2.2.2.2.2.2.2.1.length:Int)))) (grd (Nat.blt r3.1.toNat z3.2.2.2.2.2.2.2.1.length) (grd (okB (((-9223372036854775808)<=(z3.1.2.2.2.2.2.2.2.1+1))/\((z3.1.2.2.2.2.2.2.2.1+1)<=9223372036854775807))) (some (Sum.inl (((),((),(z3.1.2.2.1,(z3.1.2.2.2.1,(z3.1.2.2.2.2.1,(z3.1.2.2.2.2.2.1,((),((z3.1.2.2.2.2.2.2.2.1+1),())))))))),(z3.2.1,(z3.2.2.1,((z3.2.2.2.1.1,((),(z3.2.2.2.1.2.2.1,(z3.2.2.2.1.2.2.2.1,(z3.2.2.2.1.2.2.2.2.1,((),())))))),(z3.2.2.2.2.2.2.1,((z3.2.2.2.2.2.2.2.1.set r3.1.toNat (Block.mk z3.2.2.2.2.2.2.2.2.1 z3.2.2.2.2.2.2.2.2.2.1 (Term.mk z3.2.2.2.2.1.2.2.1 z3.2.2.2.2.1.2.2.2.1 z3.2.2.2.2.2.1 z3.2.2.2.2.2.2.2.2.2.2.1) z3.2.2.2.2.1.2.2.2.2.2.2.1 z3.2.2.2.2.1.2.2.2.2.2.2.2.1 z3.2.2.2.2.1.2.2.2.2.2.2.2.2.1)),()))))))))))))))))
def go34_j1:((Unit×(Unit×(Int×(Int×(Int×(Int×(Unit×(Int×(Unit×(Unit×(Int×(Unit×Unit))))))))))))×(Fn×(Fn×(ty112×((Unit×((List qat)×(Int×(Int×((List Edge)×((List Int)×(Int×(Int×(Int×Unit)))))))))×((List qat)×((Int×(Int×(Unit×(Int×(Int×Unit)))))×((List Int)×((List Block)×((List Int)×((List Int)×Unit)))))))))))->Option ((ty116×ty113)⊕(ty121×ty113)):=(fun z1=>(grd (okB ((((z1.2.2.2.2.2.1.length+1)*56)<=140737488355328)/\((z1.2.2.2.2.2.1.length+1)<=281474976710656))) (grd (okB (((-9223372036854775808)<=(z1.1.2.2.2.2.2.2.2.2.2.2.1+1))/\((z1.1.2.2.2.2.2.2.2.2.2.2.1+1)<=9223372036854775807))) (some (Sum.inl (((),((),(z1.1.2.2.1,(z1.1.2.2.2.1,(z1.1.2.2.2.2.1,(z1.1.2.2.2.2.2.1,((),(z1.1.2.2.2.2.2.2.2.1,((),((),((z1.1.2.2.2.2.2.2.2.2.2.2.1+1),()))))))))))),(z1.2.1,(z1.2.2.1,((z1.2.2.2.1.1,((),(z1.2.2.2.1.2.2.1,(z1.2.2.2.1.2.2.2.1,(z1.2.2.2.1.2.2.2.2.1,((),())))))),(((),(z1.2.2.2.2.1.2.1,(z1.2.2.2.2.1.2.2.1,(z1.2.2.2.2.1.2.2.2.1,(z1.2.2.2.2.1.2.2.2.2.1,(z1.2.2.2.2.1.2.2.2.2.2.1,(z1.2.2.2.2.1.2.2.2.2.2.2.1,(z1.2.2.2.2.1.2.2.2.2.2.2.2.1,(z1.2.2.2.2.1.2.2.2.2.2.2.2.2.1,()))))))))),((z1.2.2.2.2.2.1++((qat.mk z1.2.2.2.2.2.2.1.1 z1.2.2.2.2.2.2.1.2.1 z1.2.2.2.2.2.2.2.2.2.2.1 z1.2.2.2.2.2.2.1.2.2.2.1 z1.2.2.2.2.2.2.1.2.2.2.2.1)::([]:List qat))),(z1.2.2.2.2.2.2.2.1,(z1.2.2.2.2.2.2.2.2.1,(z1.2.2.2.2.2.2.2.2.2.1,()))))))))))))))
def go34_l3:(ty116×ty113)->Option ((ty116×ty113)⊕(ty121×ty113)):=(fun r2=>(bif(decide (r2.1.2.2.2.2.2.2.2.2.2.2.1<(r2.2.2.2.2.1.2.1.length:Int)))then(grd (okB ((0<=r2.1.2.2.2.2.2.2.2.2.2.2.1)/\(r2.1.2.2.2.2.2.2.2.2.2.2.1<(r2.2.2.2.2.1.2.1.length:Int)))) (qaj (grd (okB (Rg5 (r2.2.2.2.2.1.2.1.getD r2.1.2.2.2.2.2.2.2.2.2.2.1.toNat qat.z).args r2.1.2.2.1 r2.1.2.2.2.2.1)) (some ((),((@List.map Int Int (fun u0=>(Sp.qdq u0 r2.1.2.2.1 0 r2.1.2.2.2.2.1)) (r2.2.2.2.2.1.2.1.getD r2.1.2.2.2.2.2.2.2.2.2.2.1.toNat qat.z).args),())))) (fun r3=>(jpO (go34_j1) (fun j0=>(bif(decide (0<=(r2.2.2.2.2.1.2.1.getD r2.1.2.2.2.2.2.2.2.2.2.2.1.toNat qat.z).dest))then(qaj (grd (okB (Rg4 (r2.2.2.2.2.1.2.1.getD r2.1.2.2.2.2.2.2.2.2.2.2.1.toNat qat.z).dest r2.1.2.2.1 0 r2.1.2.2.2.2.1)) (some ((Sp.qdq (r2.2.2.2.2.1.2.1.getD r2.1.2.2.2.2.2.2.2.2.2.2.1.toNat qat.z).dest r2.1.2.2.1 0 r2.1.2.2.2.2.1),()))) (fun r4=>(j0 (((),((),(r2.1.2.2.1,(r2.1.2.2.2.1,(r2.1.2.2.2.2.1,(r2.1.2.2.2.2.2.1,((),(r2.1.2.2.2.2.2.2.2.1,((),((),(r2.1.2.2.2.2.2.2.2.2.2.2.1,((),())))))))))))),(r2.2.1,(r2.2.2.1,((r2.2.2.2.1.1,((),(r2.2.2.2.1.2.2.1,(r2.2.2.2.1.2.2.2.1,(r2.2.2.2.1.2.2.2.2.1,((),())))))),(((),(r2.2.2.2.2.1.2.1,(r2.2.2.2.2.1.2.2.1,(r2.2.2.2.2.1.2.2.2.1,(r2.2.2.2.2.1.2.2.2.2.1,(r2.2.2.2.2.1.2.2.2.2.2.1,(r2.2.2.2.2.1.2.2.2.2.2.2.1,(r2.2.2.2.2.1.2.2.2.2.2.2.2.1,(r2.2.2.2.2.1.2.2.2.2.2.2.2.2.1,()))))))))),(r2.2.2.2.2.2.1,(((r2.2.2.2.2.1.2.1.getD r2.1.2.2.2.2.2.2.2.2.2.2.1.toNat qat.z).op,(r4.1,((),((r2.2.2.2.2.1.2.1.getD r2.1.2.2.2.2.2.2.2.2.2.2.1.toNat qat.z).num,((r2.2.2.2.2.1.2.1.getD r2.1.2.2.2.2.2.2.2.2.2.2.1.toNat qat.z).mem,()))))),(r2.2.2.2.2.2.2.1,(r2.2.2.2.2.2.2.2.1,(r2.2.2.2.2.2.2.2.2.1,(r3.2.1,()))))))))))))))else(j0 (((),((),(r2.1.2.2.1,(r2.1.2.2.2.1,(r2.1.2.2.2.2.1,(r2.1.2.2.2.2.2.1,((),(r2.1.2.2.2.2.2.2.2.1,((),((),(r2.1.2.2.2.2.2.2.2.2.2.2.1,((),())))))))))))),(r2.2.1,(r2.2.2.1,((r2.2.2.2.1.1,((),(r2.2.2.2.1.2.2.1,(r2.2.2.2.1.2.2.2.1,(r2.2.2.2.1.2.2.2.2.1,((),())))))),(((),(r2.2.2.2.2.1.2.1,(r2.2.2.2.2.1.2.2.1,(r2.2.2.2.2.1.2.2.2.1,(r2.2.2.2.2.1.2.2.2.2.1,(r2.2.2.2.2.1.2.2.2.2.2.1,(r2.2.2.2.2.1.2.2.2.2.2.2.1,(r2.2.2.2.2.1.2.2.2.2.2.2.2.1,(r2.2.2.2.2.1.2.2.2.2.2.2.2.2.1,()))))))))),(r2.2.2.2.2.2.1,(((r2.2.2.2.2.1.2.1.getD r2.1.2.2.2.2.2.2.2.2.2.2.1.toNat qat.z).op,((r2.2.2.2.2.1.2.1.getD r2.1.2.2.2.2.2.2.2.2.2.2.1.toNat qat.z).dest,((),((r2.2.2.2.2.1.2.1.getD r2.1.2.2.2.2.2.2.2.2.2.2.1.toNat qat.z).num,((r2.2.2.2.2.1.2.1.getD r2.1.2.2.2.2.2.2.2.2.2.2.1.toNat qat.z).mem,()))))),(r2.2.2.2.2.2.2.1,(r2.2.2.2.2.2.2.2.1,(r2.2.2.2.2.2.2.2.2.1,(r3.2.1,()))))))))))))))))))else(some (Sum.inr (((),((),(r2.1.2.2.1,(r2.1.2.2.2.1,(r2.1.2.2.2.2.1,(r2.1.2.2.2.2.2.1,((),(r2.1.2.2.2.2.2.2.2.1,((),((),())))))))))),(r2.2.1,(r2.2.2.1,((r2.2.2.2.1.1,((),(r2.2.2.2.1.2.2.1,(r2.2.2.2.1.2.2.2.1,(r2.2.2.2.1.2.2.2.2.1,((),())))))),(((),(r2.2.2.2.2.1.2.1,(r2.2.2.2.2.1.2.2.1,(r2.2.2.2.2.1.2.2.2.1,(r2.2.2.2.2.1.2.2.2.2.1,(r2.2.2.2.2.1.2.2.2.2.2.1,(r2.2.2.2.2.1.2.2.2.2.2.2.1,(r2.2.2.2.2.1.2.2.2.2.2.2.2.1,(r2.2.2.2.2.1.2.2.2.2.2.2.2.2.1,()))))))))),(r2.2.2.2.2.2.1,(r2.2.2.2.2.2.2.1,(r2.2.2.2.2.2.2.2.1,(r2.2.2.2.2.2.2.2.2.1,())))))))))))))
def go34_l2:(ty117×(Fn×(Fn×ty120)))->Option ((ty117×(Fn×(Fn×ty120)))⊕((Unit×(Unit×Unit))×(Fn×ty120))):=(fun r0=>(bif(decide (r0.1.2.2.2.2.2.2.2.1<r0.1.2.2.2.1))then(grd (okB ((0<=r0.1.2.2.2.2.2.2.2.1)/\(r0.1.2.2.2.2.2.2.2.1<(r0.2.1.blocks.length:Int)))) (qaj (grd (okB (Rg5 (r0.2.1.blocks.getD r0.1.2.2.2.2.2.2.2.1.toNat Block.z).params r0.1.2.2.1 r0.1.2.2.2.2.1)) (some ((),((@List.map Int Int (fun u0=>(Sp.qdq u0 r0.1.2.2.1 0 r0.1.2.2.2.2.1)) (r0.2.1.blocks.getD r0.1.2.2.2.2.2.2.2.1.toNat Block.z).params),())))) (fun r1=>(qaj (qap (go34_l3) (((),((),(r0.1.2.2.1,(r0.1.2.2.2.1,(r0.1.2.2.2.2.1,(r0.1.2.2.2.2.2.1,((),(r0.1.2.2.2.2.2.2.2.1,((),((),(0,()))))))))))),(r0.2.1,(r0.2.2.1,((r0.2.2.2.1.1,((),(r0.2.2.2.1.2.2.1,(r0.2.2.2.1.2.2.2.1,(r0.2.2.2.1.2.2.2.2.1,((),())))))),(((),((r0.2.1.blocks.getD r0.1.2.2.2.2.2.2.2.1.toNat Block.z).insts,((r0.2.1.blocks.getD r0.1.2.2.2.2.2.2.2.1.toNat Block.z).term.kind,((r0.2.1.blocks.getD r0.1.2.2.2.2.2.2.2.1.toNat Block.z).term.cond,((r0.2.1.blocks.getD r0.1.2.2.2.2.2.2.2.1.toNat Block.z).term.to,((r0.2.1.blocks.getD r0.1.2.2.2.2.2.2.2.1.toNat Block.z).term.qax,((r0.2.1.blocks.getD r0.1.2.2.2.2.2.2.2.1.toNat Block.z).qar,((r0.2.1.blocks.getD r0.1.2.2.2.2.2.2.2.1.toNat Block.z).qa9,((r0.2.1.blocks.getD r0.1.2.2.2.2.2.2.2.1.toNat Block.z).line,()))))))))),(([]:List qat),(r0.2.2.2.2.1,(r0.2.2.2.2.2.1,(r1.2.1,())))))))))) (fun z1=>(qaj (grd (okB (Rg5 z1.2.2.2.2.1.2.2.2.2.2.1 z1.1.2.2.1 z1.1.2.2.2.2.1)) (some ((),((@List.map Int Int (fun u0=>(Sp.qdq u0 z1.1.2.2.1 0 z1.1.2.2.2.2.1)) z1.2.2.2.2.1.2.2.2.2.2.1),())))) (fun r2=>(jpO (go34_j2) (fun j0=>(bif(decide (0<=z1.2.2.2.2.1.2.2.2.1))then(qaj (grd (okB (Rg4 z1.2.2.2.2.1.2.2.2.1 z1.1.2.2.1 0 z1.1.2.2.2.2.1)) (some ((Sp.qdq z1.2.2.2.2.1.2.2.2.1 z1.1.2.2.1 0 z1.1.2.2.2.2.1),()))) (fun r3=>(j0 (((),((),(z1.1.2.2.1,(z1.1.2.2.2.1,(z1.1.2.2.2.2.1,(z1.1.2.2.2.2.2.1,((),(z1.1.2.2.2.2.2.2.2.1,((),()))))))))),(z1.2.1,(z1.2.2.1,((z1.2.2.2.1.1,((),(z1.2.2.2.1.2.2.1,(z1.2.2.2.1.2.2.2.1,(z1.2.2.2.1.2.2.2.2.1,((),())))))),(((),((),(z1.2.2.2.2.1.2.2.1,(r3.1,(z1.2.2.2.2.1.2.2.2.2.1,((),(z1.2.2.2.2.1.2.2.2.2.2.2.1,(z1.2.2.2.2.1.2.2.2.2.2.2.2.1,(z1.2.2.2.2.1.2.2.2.2.2.2.2.2.1,()))))))))),(z1.2.2.2.2.2.2.1,(z1.2.2.2.2.2.2.2.1,(z1.2.2.2.2.2.2.2.2.1,(z1.2.2.2.2.2.1,(r2.2.1,())))))))))))))else(j0 (((),((),(z1.1.2.2.1,(z1.1.2.2.2.1,(z1.1.2.2.2.2.1,(z1.1.2.2.2.2.2.1,((),(z1.1.2.2.2.2.2.2.2.1,((),()))))))))),(z1.2.1,(z1.2.2.1,((z1.2.2.2.1.1,((),(z1.2.2.2.1.2.2.1,(z1.2.2.2.1.2.2.2.1,(z1.2.2.2.1.2.2.2.2.1,((),())))))),(((),((),(z1.2.2.2.2.1.2.2.1,(z1.2.2.2.2.1.2.2.2.1,(z1.2.2.2.2.1.2.2.2.2.1,((),(z1.2.2.2.2.1.2.2.2.2.2.2.1,(z1.2.2.2.2.1.2.2.2.2.2.2.2.1,(z1.2.2.2.2.1.2.2.2.2.2.2.2.2.1,()))))))))),(z1.2.2.2.2.2.2.1,(z1.2.2.2.2.2.2.2.1,(z1.2.2.2.2.2.2.2.2.1,(z1.2.2.2.2.2.1,(r2.2.1,())))))))))))))))))))))else(some (Sum.inr (((),((),())),(r0.2.2.1,((r0.2.2.2.1.1,((),(r0.2.2.2.1.2.2.1,(r0.2.2.2.1.2.2.2.1,(r0.2.2.2.1.2.2.2.2.1,((),())))))),(r0.2.2.2.2.1,(r0.2.2.2.2.2.1,())))))))))
def go34_l1:(ty117×ty118)->Option ((ty117×ty118)⊕((Unit×(Unit×(Int×(Int×(Int×(Int×(Unit×Unit)))))))×ty118)):=(fun r0=>(bif(decide (r0.1.2.2.2.2.2.2.2.1<r0.1.2.2.1))then(qaj (grd (okB (Rg4 r0.1.2.2.2.2.2.2.2.1 r0.1.2.2.1 0 r0.1.2.2.2.2.1)) (some ((Sp.qdq r0.1.2.2.2.2.2.2.2.1 r0.1.2.2.1 0 r0.1.2.2.2.2.1),()))) (fun r1=>(grd (okB ((0<=r0.1.2.2.2.2.2.2.2.1)/\(r0.1.2.2.2.2.2.2.2.1<(r0.2.1.qaa.length:Int)))) (grd (okB ((0<=r1.1)/\(r1.1<(r0.2.2.2.2.1.length:Int)))) (grd (Nat.blt r1.1.toNat r0.2.2.2.2.1.length) (grd (okB (((-9223372036854775808)<=(r0.1.2.2.2.2.2.2.2.1+1))/\((r0.1.2.2.2.2.2.2.2.1+1)<=9223372036854775807))) (some (Sum.inl (((),((),(r0.1.2.2.1,(r0.1.2.2.2.1,(r0.1.2.2.2.2.1,(r0.1.2.2.2.2.2.1,((),((r0.1.2.2.2.2.2.2.2.1+1),())))))))),(r0.2.1,(r0.2.2.1,((r0.2.2.2.1.1,((),(r0.2.2.2.1.2.2.1,(r0.2.2.2.1.2.2.2.1,(r0.2.2.2.1.2.2.2.2.1,(r0.2.2.2.1.2.2.2.2.2.1,())))))),((r0.2.2.2.2.1.set r1.1.toNat (r0.2.1.qaa.getD r0.1.2.2.2.2.2.2.2.1.toNat 0)),())))))))))))))else(some (Sum.inr (((),((),(r0.1.2.2.1,(r0.1.2.2.2.1,(r0.1.2.2.2.2.1,(r0.1.2.2.2.2.2.1,((),()))))))),(r0.2.1,(r0.2.2.1,((r0.2.2.2.1.1,((),(r0.2.2.2.1.2.2.1,(r0.2.2.2.1.2.2.2.1,(r0.2.2.2.1.2.2.2.2.1,(r0.2.2.2.1.2.2.2.2.2.1,())))))),(r0.2.2.2.2.1,())))))))))
def go34(x0:Fn)(x1:(Int×(Int×Unit))):(Option ty120):=(grd (okB (((x0.qaa.length:Int)=(x0.qaa.length:Int))/\((0<=(x0.qaa.length:Int))/\((((x0.qaa.length:Int)*((8:Nat):Int))<=140737488355328)/\((x0.qaa.length:Int)<=281474976710656))))) (qaj (qap (go34_l1) (((),((),((x0.qaa.length:Int),((x0.blocks.length:Int),((Go.IntKind.wrap Go.IntKind.i64 x1.1),((Go.IntKind.wrap Go.IntKind.i64 x1.2.1),((),(0,())))))))),(x0,(Fn.z,((x0.name,((),(x0.qag,(x0.streams,(x0.qax,(x0.blocks,())))))),((@List.replicate Int (x0.qaa.length:Int).toNat 0),())))))) (fun z0=>(grd (okB ((z0.1.2.2.2.1=z0.1.2.2.2.1)/\((0<=z0.1.2.2.2.1)/\(((z0.1.2.2.2.1*((136:Nat):Int))<=140737488355328)/\(z0.1.2.2.2.1<=281474976710656))))) (qaj (qap (go34_l2) (((),((),(z0.1.2.2.1,(z0.1.2.2.2.1,(z0.1.2.2.2.2.1,(z0.1.2.2.2.2.2.1,((),(0,())))))))),(z0.2.1,(z0.2.2.1,((z0.2.2.2.1.1,((),(z0.2.2.2.1.2.2.1,(z0.2.2.2.1.2.2.2.1,(z0.2.2.2.1.2.2.2.2.1,((),())))))),(z0.2.2.2.2.1,((@List.replicate Block z0.1.2.2.2.1.toNat Block.z),()))))))) (fun z1=>(some ((z1.2.2.1.1,((),(z1.2.2.1.2.2.1,(z1.2.2.1.2.2.2.1,(z1.2.2.1.2.2.2.2.1,((),())))))),(z1.2.2.2.1,(z1.2.2.2.2.1,()))))))))))
theorem run34(x0:Fn)(x1:(Int×(Int×Unit))):qdd (P:=Try.prog) [c86,c87] Try.f34 ann34 [(0,(.st 6)),(1,(.agg [(.i .u8),(.i .u8)]))] [] (.agg [.s,(.full 0),(.fz (.st 4)),(.fz (.st 5)),(.fz (.int .i64)),(.full 1)]) [(.lst 3 (.int .i64)),(.lst 41 (.st 3))] (x0,(x1,())) ()=go34 x0 x1:=by kernel_rfl
end
end Go.Abs
namespace Go.Abs
open Go Go.Proofs
noncomputable section
abbrev N34:=Unit×(Unit×(Int×(Int×(Int×(Int×(Unit×(Int×(Unit×(Unit×(Int×Unit))))))))))
abbrev M34:=Unit×(Unit×(Int×(Int×(Int×(Int×(Unit×(Int×(Unit×(Unit×Unit)))))))))
abbrev O34:=Unit×(Unit×(Int×(Int×(Int×(Int×(Unit×(Int×Unit)))))))
def n34(n m v b i k:Int):N34:=((),((),(n,(m,(v,(b,((),(i,((),((),(k,())))))))))))
def m34(n m v b i:Int):M34:=((),((),(n,(m,(v,(b,((),(i,((),((),()))))))))))
def o34(n m v b i:Int):O34:=((),((),(n,(m,(v,(b,((),(i,()))))))))
abbrev K34:=Unit×(Unit×(Int×(Int×((List Edge)×(Unit×(Int×(Int×(Int×Unit))))))))
abbrev J34:=Unit×((List qat)×(Int×(Int×((List Edge)×((List Int)×(Int×(Int×(Int×Unit))))))))
abbrev GT:=ByteArray×(Unit×((List Arr)×((List qbd)×((List Int)×(Unit×Unit)))))
def k34(kd cd:Int)(to:List Edge)(pl un ln:Int):K34:=((),((),(kd,(cd,(to,((),(pl,(un,(ln,())))))))))
def j34(is:List qat)(kd cd:Int)(to:List Edge)(rt:List Int)(pl un ln:Int):J34:=((),(is,(kd,(cd,(to,(rt,(pl,(un,(ln,())))))))))
def qxm(f z:Fn)(k:K34)(A:List Edge)(W:List Int)(BL:List Block)(P:List Int)(I:List qat)(R:List Int):Fn×(Fn×(GT×(K34×(List Edge×(List Int×(List Block×(List Int×(List qat×(List Int×Unit))))))))):=(f,(z,(G7 f,(k,(A,(W,(BL,(P,(I,(R,()))))))))))
def qxn(f z:Fn)(k:J34)(A:List qat)(W:List Int)(BL:List Block)(P:List Int):Fn×(Fn×(GT×(J34×(List qat×(List Int×(List Block×(List Int×Unit))))))):=(f,(z,(G7 f,(k,(A,(W,(BL,(P,()))))))))
def qtp(f z:Fn)(W:List Int)(BL:List Block):Fn×(Fn×(GT×(List Int×(List Block×Unit)))):=(f,(z,(G7 f,(W,(BL,())))))
structure Nv4(n m v b:Int):Prop where
 n:0<=n/\n<=1000000
 m:0<=m/\m<=1000000
 v:0<=v/\v<=1000000
 b:0<=b/\b<=1000000
def Rn1(u:Int):Prop:=0<=u/\u<=1000000
def RnL(l:List Int):Prop:=l.length<=100000/\∀u∈l,0<=u/\u<=1000000
theorem Nv4.l{n m v b:Int}(h:Nv4 n m v b){l:List Int}(hl:RnL l):Rg5 l n v:=⟨hl.1,hl.2,h.n,h.v⟩
theorem Nv4.w{n m v b:Int}(h:Nv4 n m v b){u:Int}(hu:Rn1 u):Rg4 u n 0 v:=⟨hu,h.n,by omega,h.v⟩
theorem Nv4.o{n m v b:Int}(h:Nv4 n m v b){u:Int}(hu:Rn1 u):Rg4 u m 1 b:=⟨hu,h.m,by omega,h.b⟩
def rE(n m v b:Int)(e:Edge):Edge:=⟨Sp.qdq e.block m 1 b,e.args.map (fun u=>Sp.qdq u n 0 v)⟩
def rI(n v:Int)(x:qat):qat:=⟨x.op,if 0<=x.dest then Sp.qdq x.dest n 0 v else x.dest,x.args.map (fun u=>Sp.qdq u n 0 v),x.num,x.mem⟩
theorem qso{α:Type}{l:List α}{i:Nat}(hi:i<l.length)(z:α):l.getD i z∈l:=by
 rw[zi5,zjc hi];exact zj1 hi
theorem q5z(f z:Fn){n m v b:Int}(hN:Nv4 n m v b)(i kd cd:Int)(to:List Edge)(pl un ln:Int)(W:List Int)(BL:List Block)(P:List Int)(I:List qat)(R:List Int)(hl:to.length<=100000)(he:∀e∈to,Rn1 e.block/\RnL e.args) :
  qap go34_l4 (n34 n m v b i 0,qxm f z (k34 kd cd to pl un ln) [] W BL P I R)=some (m34 n m v b i,qxm f z (k34 kd cd to pl un ln) (to.map (rE n m v b)) W BL P I R):=by
 refine qcj (st:=fun k=>(n34 n m v b i k,qxm f z (k34 kd cd to pl un ln) ((to.take k).map (rE n m v b)) W BL P I R)) rfl to.length (fun k hk=>?_) ?_
 ·obtain⟨h1,h2⟩:=he _ (qso hk Edge.z);have hlen:((to.take k).map (rE n m v b)).length=k:=by simp[Nat.le_of_lt hk]
  rw[qiz hk Edge.z,zkw];unfold go34_l4 n34 qxm k34;simp only[zja,qak (hN.o h1),qak (hN.l h2),qaf];simp(maxSteps:=1000000) (disch:=((try dsimp only);omega)) only[↓gsA,gsB]
  rfl
 ·unfold go34_l4 n34 m34 qxm k34;rw[List.take_length];simp(maxSteps:=1000000) (disch:=((try dsimp only);omega)) only[↓gsA,gsB]
theorem q50(f z:Fn){n m v b:Int}(hN:Nv4 n m v b)(i kd cd:Int)(is:List qat)(to:List Edge)(rt:List Int)(pl un ln:Int)(W:List Int)(BL:List Block)(P:List Int)(hl:is.length<=100000)(he:∀x∈is,x.dest<=1000000/\RnL x.args) :
  qap go34_l3 (n34 n m v b i 0,qxn f z (j34 is kd cd to rt pl un ln) [] W BL P)=some (m34 n m v b i,qxn f z (j34 is kd cd to rt pl un ln) (is.map (rI n v)) W BL P):=by
 refine qcj (st:=fun k=>(n34 n m v b i k,qxn f z (j34 is kd cd to rt pl un ln) ((is.take k).map (rI n v)) W BL P)) rfl is.length (fun k hk=>?_) ?_
 ·obtain⟨h1,h2⟩:=he _ (qso hk qat.z);have hlen:((is.take k).map (rI n v)).length=k:=by simp[Nat.le_of_lt hk]
  rw[qiz hk qat.z,zkw];unfold go34_l3 go34_j1 n34 qxn j34;by_cases hd:0<=(is.getD k qat.z).dest
  ·simp only[zja,qak (hN.w (u:=(is.getD k qat.z).dest) ⟨hd,h1⟩),qak (hN.l h2),qaf,hd,decide_true,cond_true,qcp,zjl,List.map_nil,rI,if_true];simp(maxSteps:=1000000) (disch:=((try dsimp only);omega)) only[↓gsA,gsB]
  ·simp only[zja,qak (hN.l h2),qaf,hd,decide_false,cond_false,qcp,zjl,List.map_nil,rI,if_false];simp(maxSteps:=1000000) (disch:=((try dsimp only);omega)) only[↓gsA,gsB]
 ·unfold go34_l3 n34 m34 qxn j34;rw[List.take_length];simp(maxSteps:=1000000) (disch:=((try dsimp only);omega)) only[↓gsA,gsB]
structure B34(n:Int)(B:Block):Prop where
 ps:RnL B.params
 il:B.insts.length<=100000
 is:∀x∈B.insts,x.dest<=1000000/\RnL x.args
 cd:B.term.cond<=1000000
 rs:RnL B.term.qax
 tl:B.term.to.length<=100000
 es:∀e∈B.term.to,Rn1 e.block/\RnL e.args
def rB(n m v b:Int)(x:Block):Block:=⟨x.params.map (fun u=>Sp.qdq u n 0 v),x.insts.map (rI n v),⟨x.term.kind,if 0<=x.term.cond then Sp.qdq x.term.cond n 0 v else x.term.cond,x.term.to.map (rE n m v b),x.term.qax.map (fun u=>Sp.qdq u n 0 v)⟩,x.qar,x.qa9,x.line⟩
theorem q44(f z:Fn){n v b:Int}(hN:Nv4 n f.blocks.length v b)(i:Nat)(hi:i<f.blocks.length)(W:List Int)(BL:List Block)(hB:BL.length=f.blocks.length)(h:B34 n (f.blocks.getD i Block.z)) :
  go34_l2 (o34 n f.blocks.length v b i,qtp f z W BL)=some (.inl (o34 n f.blocks.length v b ((i+1:Nat):Int),qtp f z W (BL.set (Sp.qdq i f.blocks.length 1 b).toNat (rB n f.blocks.length v b (f.blocks.getD i Block.z))))):=by
 have hm:=hN.m;have ht:=qej (b:=b) (k:=1) (by omega) (x:=(i:Int)) (n:=f.blocks.length) (by omega) (by omega);have e3:=q50 f z hN i (f.blocks.getD i Block.z).term.kind (f.blocks.getD i Block.z).term.cond (f.blocks.getD i Block.z).insts (f.blocks.getD i Block.z).term.to (f.blocks.getD i Block.z).term.qax (f.blocks.getD i Block.z).qar (f.blocks.getD i Block.z).qa9 (f.blocks.getD i Block.z).line W BL ((f.blocks.getD i Block.z).params.map (fun u=>Sp.qdq u n 0 v)) h.il h.is;unfold n34 m34 qxn j34 G7 at e3;have e4:=fun cd=>q5z f z hN i (f.blocks.getD i Block.z).term.kind cd (f.blocks.getD i Block.z).term.to (f.blocks.getD i Block.z).qar (f.blocks.getD i Block.z).qa9 (f.blocks.getD i Block.z).line W BL ((f.blocks.getD i Block.z).params.map (fun u=>Sp.qdq u n 0 v)) ((f.blocks.getD i Block.z).insts.map (rI n v)) ((f.blocks.getD i Block.z).term.qax.map (fun u=>Sp.qdq u n 0 v)) h.tl h.es;unfold n34 m34 qxm k34 G7 at e4;have hl2:(Sp.qdq i f.blocks.length 1 b).toNat<BL.length:=by omega
 have hio:Rn1 (i:Int):=⟨by omega,by omega⟩
 unfold go34_l2 go34_j2 o34 qtp G7;simp only[zja];by_cases hc:0<=(f.blocks.getD i Block.z).term.cond
 ·simp only[qak (hN.l h.ps),qaf,e3,qak (hN.l h.rs),qcp,hc,decide_true,cond_true,qak (hN.w (u:=(f.blocks.getD i Block.z).term.cond) ⟨hc,h.cd⟩),e4,qak (hN.o hio)];simp(maxSteps:=1000000) (disch:=((try dsimp only);omega)) only[↓gsA,gsB]
  simp only[rB,hc,if_true]
 ·simp only[qak (hN.l h.ps),qaf,e3,qak (hN.l h.rs),qcp,hc,decide_false,cond_false,e4,qak (hN.o hio)];simp(maxSteps:=1000000) (disch:=((try dsimp only);omega)) only[↓gsA,gsB]
  simp only[rB,hc,if_false]
end
end Go.Abs
namespace Go.Abs
open Go Go.Proofs
noncomputable section
def g34(f:Fn):ByteArray×(Unit×((List Arr)×((List qbd)×((List Int)×((List Block)×Unit))))):=(f.name,((),(f.qag,(f.streams,(f.qax,(f.blocks,()))))))
theorem q52(f z:Fn){v b:Int}(hN:Nv4 f.qaa.length f.blocks.length v b):qap go34_l1 (o34 f.qaa.length f.blocks.length v b 0,(f,(z,(g34 f,(List.replicate f.qaa.length (0:Int),()))))) =
  some ((((),((),(f.qaa.length,(f.blocks.length,(v,(b,((),()))))))):Unit×(Unit×(Int×(Int×(Int×(Int×(Unit×Unit))))))),(f,(z,(g34 f,((Sp.rot f v b).qaa,()))))):=by
 have hn:=hN.n;rw[q9e,<- q2b (fun i=>f.qaa.getD i 0) (0:Int) f.qaa.length (k:=0) (b:=v) (by omega)];refine qcj (st:=fun i=>(o34 f.qaa.length f.blocks.length v b i,(f,(z,(g34 f,(qfa (fun i=>f.qaa.getD i 0) 0 f.qaa.length 0 v i,())))))) rfl f.qaa.length (fun i hi=>?_) ?_
 ·have ht:=qej (b:=v) (k:=0) (by omega) (x:=(i:Int)) (n:=f.qaa.length) (by omega) (by omega);have hr:Rg4 (i:Int) f.qaa.length 0 v:=hN.w ⟨by omega,by omega⟩;have hl:=qjk (fun i=>f.qaa.getD i 0) (0:Int) f.qaa.length 0 v i;have hl2:(Sp.qdq i f.qaa.length 0 v).toNat<(qfa (fun i=>f.qaa.getD i 0) (0:Int) f.qaa.length 0 v i).length:=by omega
  have hs:=qsr (fun i=>f.qaa.getD i 0) (0:Int) f.qaa.length (k:=0) (b:=v) (by omega) hi;rw[<- hs];unfold go34_l1 o34 g34;simp only[zja,qak hr,qaf];simp(maxSteps:=1000000) (disch:=((try dsimp only);omega)) only[↓gsA,gsB]
 ·unfold go34_l1 o34 g34;simp(maxSteps:=1000000) (disch:=((try dsimp only);omega)) only[↓gsA,gsB]
theorem q51(f z:Fn){v b:Int}(hN:Nv4 f.qaa.length f.blocks.length v b)(W:List Int)(h:∀i,i<f.blocks.length->B34 f.qaa.length (f.blocks.getD i Block.z)):qap go34_l2 (o34 f.qaa.length f.blocks.length v b 0,qtp f z W (List.replicate f.blocks.length Block.z)) =
  some ((((),((),())):Unit×(Unit×Unit)),(z,(G7 f,(W,((Sp.rot f v b).blocks,()))))):=by
 have hn:=hN.m;rw[q5e,<- q2b (fun i=>Sp.q5f f v b (f.blocks.getD i Block.z)) Block.z f.blocks.length (k:=1) (b:=b) (by omega)];refine qcj (st:=fun i=>(o34 f.qaa.length f.blocks.length v b i,qtp f z W (qfa (fun i=>Sp.q5f f v b (f.blocks.getD i Block.z)) Block.z f.blocks.length 1 b i))) rfl f.blocks.length (fun i hi=>?_) ?_
 ·have hs:=qsr (fun i=>Sp.q5f f v b (f.blocks.getD i Block.z)) Block.z f.blocks.length (k:=1) (b:=b) (by omega) hi;have k:=q44 f z hN i hi W _ (qjk (fun i=>Sp.q5f f v b (f.blocks.getD i Block.z)) Block.z f.blocks.length 1 b i) (h i hi);rw[<- hs];exact k
 ·unfold go34_l2 o34 qtp G7;simp(maxSteps:=1000000) (disch:=((try dsimp only);omega)) only[↓gsA,gsB]
structure V34(f:Fn)(v b:Int):Prop where
 ok:f.ok
 va:Sp.valid f=true
 v:0<=v/\v<=255
 b:0<=b/\b<=255
theorem V34.nv{f:Fn}{v b:Int}(h:V34 f v b):Nv4 f.qaa.length f.blocks.length v b:=by
 obtain⟨w1,w2,w3,w4⟩:=qep h.va;have:=h.v;have:=h.b;exact⟨by omega,by omega,by omega,by omega⟩
theorem V34.bs{f:Fn}{v b:Int}(h:V34 f v b)(i:Nat)(hi:i<f.blocks.length):B34 f.qaa.length (f.blocks.getD i Block.z):=by
 obtain⟨w1,w2,w3,w4⟩:=qep h.va;have rr:=qpn h.ok h.va;have rg:=rr.rg i hi;obtain⟨s1,s2,s3,s4,s5,s6⟩:=rr.rn.sm i hi;have key:∀u:Int,0<=u/\u<(f.qaa.length:Int)->0<=u/\u<=1000000:=fun u hu=>by omega
 refine⟨⟨s1,fun u hu=>key u (rg.ps u hu)⟩,s2,fun x hx=>⟨?_,s5 x hx,fun u hu=>key u (rg.ar x hx u hu)⟩,?_,⟨s4,fun u hu=>key u (rg.rs u hu)⟩,s3,fun e he=>⟨?_,s6 e he,fun u hu=>key u (rg.ea e he u hu)⟩⟩
 ·have:=rg.ds x hx;omega
 ·have:=rg.cd;omega
 ·have:=rg.es e he;exact⟨this.1,by omega⟩
theorem wrap_u8{v:Int}(h:0<=v/\v<=255):Go.IntKind.wrap Go.IntKind.i64 v=v:=qdv (by omega) (by omega)
theorem ok34(f:Fn)(x:Int×(Int×Unit))(h:V34 f x.1 x.2.1):go34 f x=some ((f.name,((),(f.qag,(f.streams,(f.qax,((),())))))),((Sp.rot f x.1 x.2.1).qaa,((Sp.rot f x.1 x.2.1).blocks,()))):=by
 obtain⟨v,b,u⟩:=x;have hN:=h.nv;have hn:=hN.n;have hm:=hN.m;have e1:=q52 f Fn.z hN;unfold o34 g34 at e1;have e2:=q51 f Fn.z hN (Sp.rot f v b).qaa h.bs;unfold o34 qtp G7 at e2;unfold go34;simp only[wrap_u8 h.v,wrap_u8 h.b,zja];rw[qak (by refine⟨trivial,?_,?_,?_⟩<;>omega),e1]
 simp only[qaf];rw[qak (by refine⟨trivial,?_,?_,?_⟩<;>omega)]
 simp only[zja,e2,qaf]
def c34:Ctr Try.prog:=qbl 34 Try.f34 Try.func34 [c86,c87] ann34 [(0,(.st 6)),(1,(.agg [(.i .u8),(.i .u8)]))] [] (.agg [.s,(.full 0),(.fz (.st 4)),(.fz (.st 5)),(.fz (.int .i64)),(.full 1)]) [(.lst 3 (.int .i64)),(.lst 41 (.st 3))]
 (fun x _=>grd (okB (V34 x.1 x.2.1.1 x.2.1.2.1)) (some ((x.1.name,((),(x.1.qag,(x.1.streams,(x.1.qax,((),())))))),((Sp.rot x.1 x.2.1.1 x.2.1.2.1).qaa,((Sp.rot x.1 x.2.1.1 x.2.1.2.1).blocks,()))))) (fun x _ r h=>FO (run34 x.1 x.2.1) (ok34 x.1 x.2.1) h)
end
end Go.Abs
namespace Go.Abs
open Go Go.Proofs
noncomputable section
def ann149:Ann:=(.seq .o (.seq .o .o))
def go149(x0:Int):(Option (Int×Unit)):=(some ((if(64<(if(0>x0)then 0 else x0))then 64 else(if(0>x0)then 0 else x0)),()))
theorem run149(x0:Int):qdd (P:=Try.prog) [] Try.f149 ann149 [(0,(.i .i64))] [] (.i .i64) [] (x0,()) ()=go149 x0:=by kernel_rfl
def ann134:Ann:=(.seq .o (.seq .o .o))
def go134(x0:Int):(Option (Bool×Unit)):=(bif(decide (15<=x0))then(some ((decide (x0<=20)),()))else(some (false,())))
theorem run134(x0:Int):qdd (P:=Try.prog) [] Try.f134 ann134 [(0,(.i .i64))] [] .b [] (x0,()) ()=go134 x0:=by kernel_rfl
def Sp.wn(w:Int):Nat:=(Sp.width w).toNat
theorem q8r(w:Int):Sp.wn w<=64:=by have:=qiy w;unfold Sp.wn;omega
theorem zfv(w:Int):(Sp.wn w:Int)=Sp.width w:=by have:=qiy w;unfold Sp.wn;omega
def Sp.pw(n:Nat):Int:=((2^n:Nat):Int)
theorem q0y(n:Nat):0<Sp.pw n:=by unfold Sp.pw;exact Int.natCast_pos.2 (Nat.two_pow_pos n)
theorem zgq{n:Nat}(h:n<=64):Sp.pw n<=18446744073709551616:=by
 unfold Sp.pw;have:2^n<=2^64:=Nat.pow_le_pow_right (by decide) h;omega
theorem zdr(n m:Nat):Sp.pw (n+m)=Sp.pw n*Sp.pw m:=by unfold Sp.pw;rw[Nat.pow_add];exact Int.natCast_mul _ _
theorem zgr(n:Nat):(2:Int)^n=Sp.pw n:=by unfold Sp.pw;exact(Int.natCast_pow 2 n).symm
def Sp.low(w x:Int):Int:=x % Sp.pw (Sp.wn w)
theorem wrap64(n:Int):IntKind.u64.wrap n=n % 18446744073709551616:=IntKind.wrap_u64 n
theorem zbm{a b:Int}(ha:U64 a)(hb:U64 b):qnr .and .u64 a b=((a.toNat &&& b.toNat:Nat):Int):=by
 obtain⟨m,rfl⟩:=zk3 ha.1;obtain⟨n,rfl⟩:=zk3 hb.1;have h1:m<18446744073709551616:=by have:=ha.2;omega
 have h2:n<18446744073709551616:=by have:=hb.2;omega
 have h3:m &&& n<=m:=Nat.and_le_left;show IntKind.u64.wrap (((BitVec.ofInt 64 (m:Int) &&& BitVec.ofInt 64 (n:Int):BitVec 64).toNat:Nat):Int)=_;rw[BitVec.toNat_and,ofInt_u64 m h1,ofInt_u64 n h2,wrap64,zja,zja];omega
theorem q64{a:Int}(ha:U64 a){n:Nat}(hn:n<=64):qnr .and .u64 a (Sp.pw n-1)=a % Sp.pw n:=by
 have h1:=q0y n;have h2:=zgq hn;rw[zbm ha ⟨by omega,by omega⟩];obtain⟨m,rfl⟩:=zk3 ha.1;have e:(Sp.pw n-1).toNat=2^n-1:=by unfold Sp.pw;omega
 rw[e,zja,Nat.and_two_pow_sub_one_eq_mod];unfold Sp.pw;exact Int.natCast_emod _ _
theorem ok149(w:Int):go149 w=some (Sp.width w,()):=by unfold go149 Sp.width;rfl
def c149:Ctr Try.prog:=qbl 149 Try.f149 Try.func149 [] ann149 [(0,(.i .i64))] [] (.i .i64) [] (fun x _=>some (Sp.width x.1,())) (fun x _ r h=>FE (run149 x.1) (ok149 x.1) h)
theorem ok134(op:Int):go134 op=some (Sp.qcz op,()):=by
 unfold go134 Sp.qcz;by_cases h:15<=op<;>simp[h]
def c134:Ctr Try.prog:=qbl 134 Try.f134 Try.func134 [] ann134 [(0,(.i .i64))] [] .b [] (fun x _=>some (Sp.qcz x.1,())) (fun x _ r h=>FE (run134 x.1) (ok134 x.1) h)
def Sp.one(b:Bool):Int:=bif b then 1 else 0
end
end Go.Abs
namespace Go.Abs
open Go Go.Proofs
noncomputable section
def ann127:Ann:=(.seq .o (.join ⟨[(0,(.i .i64))],[]⟩ (.seq .o (.seq .o (.cond (.seq .o .o) .o))) (.seq .o .o)))
def go127(x0:Int):(Option (Int×Unit)):=(bif(decide ((Sp.width x0)=0))then(some (0,()))else(grd (okB (((-9223372036854775808)<=(64-(Sp.width x0)))/\((64-(Sp.width x0))<=9223372036854775807))) (grd (okB (0<=(64-(Sp.width x0)))) (some ((Int.fdiv 18446744073709551615 (@HPow.hPow Int Nat Int _ 2 (@Min.min Nat _ (64-(Sp.width x0)).toNat (Go.IntKind.bits Go.IntKind.u64)))),())))))
theorem run127(x0:Int):qdd (P:=Try.prog) [c149] Try.f127 ann127 [(0,(.i .i64))] [] (.i .u64) [] (x0,()) ()=go127 x0:=by kernel_rfl
theorem q6n{a b:Int}(h:0<b):Int.fdiv a b=a/b:=Int.fdiv_eq_ediv_of_nonneg a (by omega)
theorem qz0{z:Int}(h1:0<=z)(h2:z<=64):min z.toNat (IntKind.bits .u64)=z.toNat:=by
 show min z.toNat 64=z.toNat;omega
def Sp.mask(w:Int):Int:=Sp.pw (Sp.wn w)-1
theorem ok127(w:Int):go127 w=some (Sp.mask w,()):=by
 have hw:=qiy w;have hn:=zfv w;unfold go127 Sp.mask;by_cases h:Sp.width w=0
 ·have:Sp.wn w=0:=by omega
  rw[decide_eq_true h,this];rfl
 ·simp(maxSteps:=1000000) (disch:=((try dsimp only);omega)) only[↓gsA,gsB]
  have e:=zdr (Sp.wn w) (64-Sp.wn w);rw[Nat.add_sub_cancel' (q8r w)]at e;have e2:(64-Sp.width w).toNat=64-Sp.wn w:=by omega
  rw[qz0 (by omega) (by omega),e2,zgr,q6n (q0y _)];have hB:=q0y (64-Sp.wn w);have e3:(18446744073709551615:Int)=(Sp.pw (64-Sp.wn w)-1)+(Sp.pw (Sp.wn w)-1)*Sp.pw (64-Sp.wn w):=by
   rw[Int.sub_mul,<- e];have:Sp.pw 64=18446744073709551616:=by unfold Sp.pw;rfl
   omega
  rw[e3,Int.add_mul_ediv_right _ _ (by omega),Int.ediv_eq_zero_of_lt (by omega) (by omega)];simp
def c127:Ctr Try.prog:=qbl 127 Try.f127 Try.func127 [c149] ann127 [(0,(.i .i64))] [] (.i .u64) [] (fun x _=>some (Sp.mask x.1,())) (fun x _ r h=>FE (run127 x.1) (ok127 x.1) h)
end
end Go.Abs
namespace Go.Abs
open Go Go.Proofs
noncomputable section
def ann103:Ann:=(.seq .o (.seq .o .o))
def go103(x0:Int)(x1:Int):(Option (Int×Unit)):=(some ((qnr Go.BinOp.and Go.IntKind.u64 x1 (Sp.mask x0)),()))
theorem run103(x0:Int)(x1:Int):qdd (P:=Try.prog) [c127] Try.f103 ann103 [(0,(.i .i64)),(1,(.i .u64))] [] (.i .u64) [] (x0,(x1,())) ()=go103 x0 x1:=by kernel_rfl
theorem ok103(w x:Int)(hx:U64 x):go103 w x=some (Sp.low w x,()):=by
 unfold go103;rw[show Sp.mask w=Sp.pw (Sp.wn w)-1 from rfl,q64 hx (q8r w)];rfl
def c103:Ctr Try.prog:=qbl 103 Try.f103 Try.func103 [c127] ann103 [(0,(.i .i64)),(1,(.i .u64))] [] (.i .u64) [] (fun x _=>grd (okB (U64 x.2.1)) (some (Sp.low x.1 x.2.1,()))) (fun x _ r h=>FO (run103 x.1 x.2.1) (ok103 x.1 x.2.1) h)
end
end Go.Abs
namespace Go.Abs
open Go Go.Proofs
noncomputable section
def ann80:Ann:=(.seq .o (.join ⟨[(0,.s)],[]⟩ (.seq .o (.cond (.seq .o .o) .o)) (.join ⟨[],[]⟩ (.seq .o (.block (.loop sh134 [((.exit 0),⟨[],[]⟩),(.ret,⟨[(2,.b)],[]⟩)] (.seq .o (.join sh134 (.cond .o .o) (.join sh134 (.block (.seq .o (.seq .o (.seq .o (.cond .o .o))))) .o)))))) (.seq .o .o))))
def go80_j1:(ty122×Unit)->Option ((ty122×Unit)⊕((Unit×Unit)⊕((Bool×Unit)×Unit))):=(fun z0=>(grd (okB (((-9223372036854775808)<=(z0.1.2.2.1+1))/\((z0.1.2.2.1+1)<=9223372036854775807))) (some (Sum.inl ((z0.1.1,(z0.1.2.1,((z0.1.2.2.1+1),()))),())))))
def go80_l1:(ty122×Unit)->Option ((ty122×Unit)⊕((Unit×Unit)⊕((Bool×Unit)×Unit))):=(fun r0=>(bif(decide (r0.1.2.2.1<r0.1.2.1))then(jpO (go80_j1) (fun j0=>(grd (okB ((0<=r0.1.2.2.1)/\(r0.1.2.2.1<(r0.1.1.length:Int)))) (bif(decide ((r0.1.1.getD r0.1.2.2.1.toNat 0)=95))then(j0 ((r0.1.1,(r0.1.2.1,(r0.1.2.2.1,()))),()))else(bif(decide (97<=(r0.1.1.getD r0.1.2.2.1.toNat 0)))then(bif(decide ((r0.1.1.getD r0.1.2.2.1.toNat 0)<=122))then(j0 ((r0.1.1,(r0.1.2.1,(r0.1.2.2.1,()))),()))else(bif(decide (65<=(r0.1.1.getD r0.1.2.2.1.toNat 0)))then(bif(!(decide ((r0.1.1.getD r0.1.2.2.1.toNat 0)<=90)))then(bif(decide (r0.1.2.2.1=0))then(some (Sum.inr (Sum.inr ((false,()),()))))else(bif(decide ((r0.1.1.getD r0.1.2.2.1.toNat 0)<48))then(some (Sum.inr (Sum.inr ((false,()),()))))else(bif(decide (57<(r0.1.1.getD r0.1.2.2.1.toNat 0)))then(some (Sum.inr (Sum.inr ((false,()),()))))else(j0 ((r0.1.1,(r0.1.2.1,(r0.1.2.2.1,()))),())))))else(j0 ((r0.1.1,(r0.1.2.1,(r0.1.2.2.1,()))),())))else(bif(decide (r0.1.2.2.1=0))then(some (Sum.inr (Sum.inr ((false,()),()))))else(bif(decide ((r0.1.1.getD r0.1.2.2.1.toNat 0)<48))then(some (Sum.inr (Sum.inr ((false,()),()))))else(bif(decide (57<(r0.1.1.getD r0.1.2.2.1.toNat 0)))then(some (Sum.inr (Sum.inr ((false,()),()))))else(j0 ((r0.1.1,(r0.1.2.1,(r0.1.2.2.1,()))),())))))))else(bif(decide (65<=(r0.1.1.getD r0.1.2.2.1.toNat 0)))then(bif(!(decide ((r0.1.1.getD r0.1.2.2.1.toNat 0)<=90)))then(bif(decide (r0.1.2.2.1=0))then(some (Sum.inr (Sum.inr ((false,()),()))))else(bif(decide ((r0.1.1.getD r0.1.2.2.1.toNat 0)<48))then(some (Sum.inr (Sum.inr ((false,()),()))))else(bif(decide (57<(r0.1.1.getD r0.1.2.2.1.toNat 0)))then(some (Sum.inr (Sum.inr ((false,()),()))))else(j0 ((r0.1.1,(r0.1.2.1,(r0.1.2.2.1,()))),())))))else(j0 ((r0.1.1,(r0.1.2.1,(r0.1.2.2.1,()))),())))else(bif(decide (r0.1.2.2.1=0))then(some (Sum.inr (Sum.inr ((false,()),()))))else(bif(decide ((r0.1.1.getD r0.1.2.2.1.toNat 0)<48))then(some (Sum.inr (Sum.inr ((false,()),()))))else(bif(decide (57<(r0.1.1.getD r0.1.2.2.1.toNat 0)))then(some (Sum.inr (Sum.inr ((false,()),()))))else(j0 ((r0.1.1,(r0.1.2.1,(r0.1.2.2.1,()))),())))))))))))else(some (Sum.inr (Sum.inl ((),()))))))
def go80(x0:ByteArray):(Option (Bool×Unit)):=(bif((ByteArray.toList x0)==(ByteArray.toList (ByteArray.mk (@List.toArray UInt8 ([]:List UInt8)))))then(some (false,()))else(bif(decide (64<(((ByteArray.size x0):Nat):Int)))then(some (false,()))else(grd (okB ((ByteArray.size x0)<=281474976710656)) (qaj (qap (go80_l1) (((qeg x0),((((qeg x0).length:Nat):Int),(0,()))),())) (fun z0=>(qgu (fun z1=>(some (true,()))) (fun z1=>(some (z1.1.1,()))) z0))))))
theorem run80(x0:ByteArray):qdd (P:=Try.prog) [] Try.f80 ann80 [(0,.s)] [] .b [] (x0,()) ()=go80 x0:=by kernel_rfl
def ann83:Ann:=(.seq .o (.seq .o .o))
def go83(x0:Int):(Option (Bool×Unit)):=(bif(decide (1<=x0))then(some ((decide (x0<=64)),()))else(some (false,())))
theorem run83(x0:Int):qdd (P:=Try.prog) [] Try.f83 ann83 [(0,(.i .i64))] [] .b [] (x0,()) ()=go83 x0:=by kernel_rfl
def ann119:Ann:=(.seq .o (.join ⟨[],[]⟩ (.seq .o (.block (.seq .o (.cond (.seq .o .o) (.join ⟨[(1,(.ptr 0 0)),(4,(.i .i64)),(10,.b)],[(.box 53 (.st 4))]⟩ (.seq .o (.cond .o .o)) (.cond (.seq .o .o) (.seq .o (.cond (.seq .o .o) .o)))))))) (.seq .o .o)))
def go119_j1:((Unit×(Int×(Bool×Unit)))×(Arr×Unit))->Option (Bool×Unit):=(fun z0=>(bif z0.1.2.2.1 then(bif(decide (1<=z0.2.1.factor))then(some ((decide (z0.2.1.factor<=(if(64<z0.2.1.len)then 64 else z0.2.1.len))),()))else(some (false,())))else(bif(decide (z0.1.2.1=3))then(bif(decide (z0.2.1.factor=0))then(some ((decide (z0.2.1.len<=64)),()))else(some (false,())))else(some (false,())))))
def go119(x0:Arr):(Option (Bool×Unit)):=(bif(decide (x0.kind=0))then(some ((decide (x0.factor=0)),()))else(jpO (go119_j1) (fun j0=>(bif(decide (x0.kind=1))then(j0 (((),(x0.kind,(true,()))),(x0,())))else(j0 (((),(x0.kind,((decide (x0.kind=2)),()))),(x0,())))))))
theorem run119(x0:Arr):qdd (P:=Try.prog) [] Try.f119 ann119 [(0,(.st 4))] [] .b [] (x0,()) ()=go119 x0:=by kernel_rfl
theorem ok83(w:Int):go83 w=some (Sp.right w,()):=by
 unfold go83 Sp.right;by_cases h:1<=w<;>simp[h]
def c83:Ctr Try.prog:=qbl 83 Try.f83 Try.func83 [] ann83 [(0,(.i .i64))] [] .b [] (fun x _=>some (Sp.right x.1,())) (fun x _ r h=>FE (run83 x.1) (ok83 x.1) h)
def Sp.qsx(a:Arr):Bool:=if a.kind=0 then decide (a.factor=0)else if a.kind=1\/a.kind=2 then decide (1<=a.factor)&&decide (a.factor<=if 64<a.len then 64 else a.len)else if a.kind=3 then decide (a.factor=0)&&decide (a.len<=64)else false
theorem ok119(a:Arr):go119 a=some (Sp.qsx a,()):=by
 unfold go119 go119_j1 Sp.qsx;simp only[qcp,qb8];by_cases h0:a.kind=0
 ·simp[h0]
 by_cases h1:a.kind=1
 ·simp only[h1];by_cases h:1<=a.factor<;>simp[h]
 by_cases h2:a.kind=2
 ·simp only[h2];by_cases h:1<=a.factor<;>simp[h]
 by_cases h3:a.kind=3
 ·simp only[h3];by_cases h:a.factor=0<;>simp[h]
 ·simp[h0,h1,h2,h3]
def c119:Ctr Try.prog:=qbl 119 Try.f119 Try.func119 [] ann119 [(0,(.st 4))] [] .b [] (fun x _=>some (Sp.qsx x.1,())) (fun x _ r h=>FE (run119 x.1) (ok119 x.1) h)
theorem qs5(b:ByteArray){i:Nat}(h:i<b.size):(qeg b).getD i 0=qe8 b i:=by
 have h':i<b.data.toList.length:=h;simp[qeg,qe8,zi5,zkc,zjc h']
def Sp.qks(c:Int)(i:Nat):Bool:=Sp.letter c||(!decide (i=0)&&(decide (48<=c)&&decide (c<=57)))
theorem q10(s:ByteArray)(i:Nat):Sp.qks (qe8 s i) i=Sp.qhi s i:=by
 unfold Sp.qks Sp.qhi;have e:(decide (48<=qe8 s i)&&decide (qe8 s i<=57))=!decide (Sp.digit (qe8 s i) 10<0):=by
  generalize qe8 s i=c;unfold Sp.digit Sp.qww Sp.q2s Sp.q2t;rw[<- decide_not,<- Bool.decide_and];refine decide_eq_decide.2 ?_
  repeat' split
  all_goals omega
 rw[e]
theorem zd1(s:ByteArray)(hs:s.size<=64):qap go80_l1 ((qeg s,(((qeg s).length:Nat):Int),(0:Int),()),())=some (if(List.range s.size).all (fun i=>Sp.qks (qe8 s i) i)then Sum.inl ((),())else Sum.inr ((false,()),())):=by
 unfold go80_l1 go80_j1;have hl:=qpf s;refine qa6 (l:=List.range s.size) (st:=fun i=>((qeg s,(((qeg s).length:Nat):Int),(i:Int),()),())) rfl 0 (fun i=>Sp.qks (qe8 s i) i) (A:=Sum.inl ((),())) (B:=Sum.inr ((false,()),())) (fun i hi hp=>?_) (fun i hi hp=>?_) (fun _=>?_)
 ·rw[zjb]at hi;have e:(List.range s.size).getD i 0=i:=by simp[zi5,hi]
  rw[e]at hp;have hb:=qs5 s hi;simp only[zja,hb,hl,qcp];simp(maxSteps:=1000000) (disch:=((try dsimp only);omega)) only[↓gsA,gsB]
  unfold Sp.qks Sp.letter at hp;generalize qe8 s i=c at hp ⊢;simp only[zj7,zi4,zjo,decide_eq_true_eq,decide_eq_false_iff_not]at hp
  repeat' split
  all_goals first
   |rfl
   |(simp[hl];done)
   |(exfalso;omega)
 ·rw[zjb]at hi;have e:(List.range s.size).getD i 0=i:=by simp[zi5,hi]
  rw[e]at hp;have hb:=qs5 s hi;simp only[zja,hb,hl,qcp];simp(maxSteps:=1000000) (disch:=((try dsimp only);omega)) only[↓gsA,gsB]
  unfold Sp.qks Sp.letter at hp;generalize qe8 s i=c at hp ⊢;simp only[Bool.or_eq_false_iff,Bool.and_eq_false_iff,Bool.not_eq_false',decide_eq_true_eq,decide_eq_false_iff_not]at hp
  repeat' split
  all_goals first
   |rfl
   |(exfalso;omega)
 ·rw[zjb];simp(maxSteps:=1000000) (disch:=((try dsimp only);omega)) only[↓gsA,gsB]
theorem ok80(s:ByteArray):go80 s=some (Sp.ident s,()):=by
 unfold go80;have e0:((ByteArray.toList s)==(ByteArray.toList (ByteArray.mk (@List.toArray UInt8 ([]:List UInt8)))))=decide (s.size=0):=by
  rw[bytes_beq];refine decide_eq_decide.2 ⟨fun h=>by rw[h];rfl,fun h=>?_⟩
  obtain⟨d⟩:=s;have:d=#[]:=Array.size_eq_zero_iff.1 h;rw[this]
 have e1:(List.range s.size).all (Sp.qhi s)=(List.range s.size).all (fun i=>Sp.qks (qe8 s i) i):=by
  congr 1;funext i;exact(q10 s i).symm
 unfold Sp.ident;rw[e0,e1];by_cases h0:s.size=0
 ·simp[h0]
 by_cases h1:64<s.size
 ·rw[decide_eq_false h0,decide_eq_true (by omega:(64:Int)<((s.size:Nat):Int)),decide_eq_false (by omega:¬ ((s.size:Nat):Int)<=64)];simp
 have h2:s.size<=64:=by omega
 have h3:((s.size:Nat):Int)<=64:=by omega
 have h4:(1:Int)<=((s.size:Nat):Int):=by omega
 rw[decide_eq_false h0,decide_eq_false (by omega:¬ (64:Int)<((s.size:Nat):Int)),qak (by omega),decide_eq_true h3,decide_eq_true h4];simp only[cond_false];refine qa5 (zd1 s h2) ?_;cases(List.range s.size).all (fun i=>Sp.qks (qe8 s i) i)<;>rfl
def c80:Ctr Try.prog:=qbl 80 Try.f80 Try.func80 [] ann80 [(0,.s)] [] .b [] (fun x _=>some (Sp.ident x.1,())) (fun x _ r h=>FE (run80 x.1) (ok80 x.1) h)
end
end Go.Abs
namespace Go.Abs
open Go Go.Proofs
noncomputable section
def ann82:Ann:=(.seq .o (.seq .o .o))
def go82(x0:Int):(Option (Bool×Unit)):=(some ((!(Sp.right x0)),()))
theorem run82(x0:Int):qdd (P:=Try.prog) [c83] Try.f82 ann82 [(0,(.i .i64))] [] .b [] (x0,()) ()=go82 x0:=by kernel_rfl
def ann118:Ann:=(.seq .o (.seq .o (.seq .o (.seq .o .o))))
def go118(x0:ByteArray)(y0:(Unit×Unit))(y1:(qb1->(Option Bool))):(Option (Bool×ty119)):=(bif(!(@Option.getD Bool (y1 (qb1.s x0)) false))then(some ((Sp.ident x0),(((),()),((@qij Bool y1 (qb1.s x0) true),()))))else(some (false,(((),()),((@qij Bool y1 (qb1.s x0) true),())))))
theorem run118(x0:ByteArray)(y0:(Unit×Unit))(y1:(qb1->(Option Bool))):qdd (P:=Try.prog) [c80] Try.f118 ann118 [(0,.s),(1,(.ptr 0 0))] [(.cells 134 [(.qca 1)]),(.mp true .bool)] .b [(.cells 134 [(.qca 1)]),(.mp true .bool)] (x0,((),())) (y0,(y1,()))=go118 x0 y0 y1:=by kernel_rfl
def c82:Ctr Try.prog:=qbl 82 Try.f82 Try.func82 [c83] ann82 [(0,(.i .i64))] [] .b [] (fun x _=>some (!Sp.right x.1,())) (fun x _ r h=>FE (run82 x.1) rfl h)
def Sp.fresh(g:qb1->Option Bool)(s:ByteArray):Bool:=!((g (.s s)).getD false)&&Sp.ident s
theorem ok118(s:ByteArray)(g:qb1->Option Bool):go118 s ((),()) g=some (Sp.fresh g s,((),()),qij g (.s s) true,()):=by
 unfold go118 Sp.fresh;cases(g (.s s)).getD false<;>rfl
def c118:Ctr Try.prog:=qbl 118 Try.f118 Try.func118 [c80] ann118 [(0,.s),(1,(.ptr 0 0))] [(.cells 134 [(.qca 1)]),(.mp true .bool)] .b [(.cells 134 [(.qca 1)]),(.mp true .bool)] (fun x y=>some (Sp.fresh y.2.1 x.1,((),()),qij y.2.1 (.s x.1) true,())) (fun x y r h=>FE (run118 x.1 y.1 y.2.1) (ok118 x.1 y.2.1) h)
end
end Go.Abs
namespace Go.Abs
open Go Go.Proofs
noncomputable section
def ann120:Ann:=(.seq .o (.join ⟨[],[]⟩ (.seq .o (.block (.loop sh135 [((.exit 0),⟨[],[]⟩),(.ret,⟨[(4,(.i .i64))],[]⟩)] (.seq .o (.join sh135 (.cond .o .o) (.join sh135 (.block (.seq .o (.seq .o (.cond (.seq .o .o) .o)))) .o)))))) (.seq .o .o)))
def go120_l1:(((List Int)×(Unit×(Int×(Int×Unit))))×Unit)->Option ((((List Int)×(Unit×(Int×(Int×Unit))))×Unit)⊕((Unit×Unit)⊕((Int×Unit)×Unit))):=(fun r0=>(bif(decide (r0.1.2.2.2.1<r0.1.2.2.1))then(grd (okB ((0<=r0.1.2.2.2.1)/\(r0.1.2.2.2.1<(r0.1.1.length:Int)))) (bif(!(Sp.right (r0.1.1.getD r0.1.2.2.2.1.toNat 0)))then(some (Sum.inr (Sum.inr ((r0.1.2.2.2.1,()),()))))else(grd (okB (((-9223372036854775808)<=(r0.1.2.2.2.1+1))/\((r0.1.2.2.2.1+1)<=9223372036854775807))) (some (Sum.inl ((r0.1.1,((),(r0.1.2.2.1,((r0.1.2.2.2.1+1),())))),()))))))else(some (Sum.inr (Sum.inl ((),()))))))
def go120(x0:(List Int))(x1:Unit):(Option (Int×Unit)):=(qaj (qap (go120_l1) ((x0,((),((x0.length:Int),(0,())))),())) (fun z0=>(qgu (fun z1=>(some ((-1),()))) (fun z1=>(some (z1.1.1,()))) z0)))
theorem run120(x0:(List Int))(x1:Unit):qdd (P:=Try.prog) [c82] Try.f120 ann120 [(0,(.fz (.int .i64))),(1,(.fn 82 []))] [] (.i .i64) [] (x0,(x1,())) ()=go120 x0 x1:=by kernel_rfl
def ann81:Ann:=(.seq .o (.seq .o (.seq .o (.join sh136 (.seq .o (.block (.loop sh137 [((.exit 0),sh136),(.ret,⟨[(2,.b)],[]⟩)] (.seq .o (.join sh137 (.cond .o .o) (.join sh137 (.block (.seq .o (.seq .o (.cond (.seq .o .o) .o)))) .o)))))) (.join ⟨[(1,(.ptr 0 0))],[(.box 30 (.st 6))]⟩ (.seq .o (.block (.loop sh138 [((.exit 2),⟨[(1,(.ptr 0 0))],[(.box 30 (.st 6))]⟩),(.ret,⟨[(2,.b)],[]⟩)] (.seq .o (.join sh138 (.cond .o .o) (.join sh138 (.block (.seq .o (.seq .o (.cond (.seq .o .o) .o)))) .o)))))) (.seq .o .o))))))
def go81_l2:ty123->Option (ty123⊕(((Unit×Unit)×(Fn×Unit))⊕((Bool×Unit)×Unit))):=(fun r0=>(bif(decide (r0.1.2.2.2.2.1<r0.1.2.2.2.1))then(grd (okB ((0<=r0.1.2.2.2.2.1)/\(r0.1.2.2.2.2.1<(r0.1.2.2.1.length:Int)))) (bif(!(Sp.fresh r0.2.2.2.1 (r0.1.2.2.1.getD r0.1.2.2.2.2.1.toNat qbd.z).name))then(some (Sum.inr (Sum.inr ((false,()),()))))else(bif(!(Sp.right (r0.1.2.2.1.getD r0.1.2.2.2.2.1.toNat qbd.z).width))then(some (Sum.inr (Sum.inr ((false,()),()))))else(grd (okB (((-9223372036854775808)<=(r0.1.2.2.2.2.1+1))/\((r0.1.2.2.2.2.1+1)<=9223372036854775807))) (some (Sum.inl (((),(((),()),(r0.1.2.2.1,(r0.1.2.2.2.1,((r0.1.2.2.2.2.1+1),()))))),(r0.2.1,(((),()),((@qij Bool r0.2.2.2.1 (qb1.s (r0.1.2.2.1.getD r0.1.2.2.2.2.1.toNat qbd.z).name) true),()))))))))))else(some (Sum.inr (Sum.inl (((),()),(r0.2.1,())))))))
def go81_l1:ty124->Option (ty124⊕(((Unit×((Unit×Unit)×Unit))×(Fn×ty119))⊕((Bool×Unit)×Unit))):=(fun r0=>(bif(decide (r0.1.2.2.2.2.1<r0.1.2.2.2.1))then(grd (okB ((0<=r0.1.2.2.2.2.1)/\(r0.1.2.2.2.2.1<(r0.1.2.2.1.length:Int)))) (bif(!(Sp.fresh r0.2.2.2.1 (r0.1.2.2.1.getD r0.1.2.2.2.2.1.toNat Arr.z).name))then(some (Sum.inr (Sum.inr ((false,()),()))))else(bif(!(Sp.right (r0.1.2.2.1.getD r0.1.2.2.2.2.1.toNat Arr.z).width))then(some (Sum.inr (Sum.inr ((false,()),()))))else(bif(decide ((r0.1.2.2.1.getD r0.1.2.2.2.2.1.toNat Arr.z).len<1))then(some (Sum.inr (Sum.inr ((false,()),()))))else(bif(decide (4096<(r0.1.2.2.1.getD r0.1.2.2.2.2.1.toNat Arr.z).len))then(some (Sum.inr (Sum.inr ((false,()),()))))else(bif(!(Sp.qsx (r0.1.2.2.1.getD r0.1.2.2.2.2.1.toNat Arr.z)))then(some (Sum.inr (Sum.inr ((false,()),()))))else(grd (okB (((-9223372036854775808)<=(r0.1.2.2.2.2.1+1))/\((r0.1.2.2.2.2.1+1)<=9223372036854775807))) (some (Sum.inl (((),(((),()),(r0.1.2.2.1,(r0.1.2.2.2.1,((r0.1.2.2.2.2.1+1),()))))),(r0.2.1,(((),()),((@qij Bool r0.2.2.2.1 (qb1.s (r0.1.2.2.1.getD r0.1.2.2.2.2.1.toNat Arr.z).name) true),())))))))))))))else(some (Sum.inr (Sum.inl (((),(((),()),())),(r0.2.1,(((),()),(r0.2.2.2.1,())))))))))
def go81(x0:Fn):(Option (Bool×Unit)):=(qaj (qap (go81_l1) (((),(((),()),(x0.qag,((x0.qag.length:Int),(0,()))))),(x0,(((),()),((fun z0=>none),()))))) (fun z0=>(qgu (fun z1=>(qaj (qap (go81_l2) (((),(((),()),(z1.2.1.streams,((z1.2.1.streams.length:Int),(0,()))))),(z1.2.1,(((),()),(z1.2.2.2.1,()))))) (fun z2=>(qgu (fun z3=>(bif(decide ((z3.2.1.qag.length:Int)<=64))then(some ((decide ((z3.2.1.streams.length:Int)<=64)),()))else(some (false,())))) (fun z3=>(some (z3.1.1,()))) z2)))) (fun z1=>(some (z1.1.1,()))) z0)))
theorem run81(x0:Fn):qdd (P:=Try.prog) [c118,c83,c119] Try.f81 ann81 [(0,(.st 6))] [] .b [] (x0,()) ()=go81 x0:=by kernel_rfl
def ann121:Ann:=(.seq .o (.join ⟨[(0,(.ptr 0 0)),(1,(.i .i64)),(2,(.i .i64))],sh146⟩ (.seq .o (.cond (.seq .o .o) .o)) (.seq (.x ⟨false,false,false,false,[],[],[0,1,3,7,0,0,32,96,224,0,0,1024,511,4607,16383,32767],(.fl 0 (.fl 1 (.fl 2 (.fl 4 (.fl 5 (.fl 6 (.fl 7 (.fl 9 (.fl 10 (.fl 11 (.qu [3,8,12] (.on 13 (.qu [14] (.on 15 .nil))))))))))))))⟩) (.seq .o .o))))
def go121(x1:Int)(x2:Int)(y0:ty111)(y1:(List Bool))(y2:(List Int)):(Option (Bool×ty115)):=(bif(decide (x1<0))then(some (false,((y0.1,(y0.2.1,(y0.2.2.1,(y0.2.2.2.1,(y0.2.2.2.2.1,(y0.2.2.2.2.2.1,((),((),())))))))),(y1,(y2,())))))else(bif(decide ((y1.length:Int)<=x1))then(some (false,((y0.1,(y0.2.1,(y0.2.2.1,(y0.2.2.2.1,(y0.2.2.2.2.1,(y0.2.2.2.2.2.1,((),((),())))))))),(y1,(y2,())))))else(grd (okB ((0<=x1)/\(x1<(y1.length:Int)))) (grd (Nat.blt x1.toNat y1.length) (bif(y1.getD x1.toNat false)then(some (false,((y0.1,(y0.2.1,(y0.2.2.1,(y0.2.2.2.1,(y0.2.2.2.2.1,(y0.2.2.2.2.2.1,((),((),())))))))),(y1,(y2,())))))else(grd (okB (((-9223372036854775808)<=(x2+1))/\((x2+1)<=9223372036854775807))) (grd (okB ((0<=x1)/\(x1<(y1.length:Int)))) (grd (Nat.blt x1.toNat y1.length) (grd (okB ((0<=x1)/\(x1<(y2.length:Int)))) (grd (Nat.blt x1.toNat y2.length) (some (true,((y0.1,(y0.2.1,(y0.2.2.1,(y0.2.2.2.1,(y0.2.2.2.2.1,(y0.2.2.2.2.2.1,((),((),())))))))),((y1.set x1.toNat true),((y2.set x1.toNat (x2+1)),())))))))))))))))
theorem run121(x1:Int)(x2:Int)(y0:(ByteArray×((List Int)×((List Arr)×((List qbd)×((List Int)×((List Block)×(Unit×(Unit×Unit)))))))))(y1:(List Bool))(y2:(List Int)):qdd (P:=Try.prog) [] Try.f121 ann121 [(0,(.ptr 0 0)),(1,(.i .i64)),(2,(.i .i64))] [(.cells 107 [.s,(.fz (.int .i64)),(.fz (.st 4)),(.fz (.st 5)),(.fz (.int .i64)),(.fz (.st 3)),(.full 1),(.full 2)]),(.lst 4 .bool),(.lst 3 (.int .i64))] .b [(.cells 107 [.s,(.fz (.int .i64)),(.fz (.st 4)),(.fz (.st 5)),(.fz (.int .i64)),(.fz (.st 3)),(.full 1),(.full 2)]),(.lst 4 .bool),(.lst 3 (.int .i64))] ((),(x1,(x2,()))) (y0,(y1,(y2,())))=go121 x1 x2 y0 y1 y2:=by kernel_rfl
def ann122:Ann:=(.seq .o (.join sh139 (.seq .o (.block (.loop sh140 [((.exit 0),sh139),(.ret,⟨[(6,.b)],sh146⟩)] (.seq .o (.join sh140 (.cond .o .o) (.join sh140 (.block (.seq .o (.seq .o (.cond (.seq .o .o) .o)))) .o)))))) (.seq .o .o)))
def go122_l1:((Unit×(Int×ty122))×ty115)->Option (((Unit×(Int×ty122))×ty115)⊕((Unit×ty115)⊕((Bool×Unit)×ty115))):=(fun r0=>(bif(decide (r0.1.2.2.2.2.1<r0.1.2.2.2.1))then(grd (okB ((0<=r0.1.2.2.2.2.1)/\(r0.1.2.2.2.2.1<(r0.1.2.2.1.length:Int)))) (bif(decide ((r0.1.2.2.1.getD r0.1.2.2.2.2.1.toNat 0)<0))then(some (Sum.inr (Sum.inr ((false,()),((r0.2.1.1,(r0.2.1.2.1,(r0.2.1.2.2.1,(r0.2.1.2.2.2.1,(r0.2.1.2.2.2.2.1,(r0.2.1.2.2.2.2.2.1,((),((),())))))))),(r0.2.2.1,(r0.2.2.2.1,())))))))else(bif(decide ((r0.2.2.2.1.length:Int)<=(r0.1.2.2.1.getD r0.1.2.2.2.2.1.toNat 0)))then(some (Sum.inr (Sum.inr ((false,()),((r0.2.1.1,(r0.2.1.2.1,(r0.2.1.2.2.1,(r0.2.1.2.2.2.1,(r0.2.1.2.2.2.2.1,(r0.2.1.2.2.2.2.2.1,((),((),())))))))),(r0.2.2.1,(r0.2.2.2.1,())))))))else(grd (okB ((0<=(r0.1.2.2.1.getD r0.1.2.2.2.2.1.toNat 0))/\((r0.1.2.2.1.getD r0.1.2.2.2.2.1.toNat 0)<(r0.2.2.2.1.length:Int)))) (grd (Nat.blt (r0.1.2.2.1.getD r0.1.2.2.2.2.1.toNat 0).toNat r0.2.2.2.1.length) (grd (okB (((-9223372036854775808)<=(r0.1.2.1+1))/\((r0.1.2.1+1)<=9223372036854775807))) (bif(!(decide ((r0.2.2.2.1.getD (r0.1.2.2.1.getD r0.1.2.2.2.2.1.toNat 0).toNat 0)=(r0.1.2.1+1))))then(some (Sum.inr (Sum.inr ((false,()),((r0.2.1.1,(r0.2.1.2.1,(r0.2.1.2.2.1,(r0.2.1.2.2.2.1,(r0.2.1.2.2.2.2.1,(r0.2.1.2.2.2.2.2.1,((),((),())))))))),(r0.2.2.1,(r0.2.2.2.1,())))))))else(grd (okB (((-9223372036854775808)<=(r0.1.2.2.2.2.1+1))/\((r0.1.2.2.2.2.1+1)<=9223372036854775807))) (some (Sum.inl (((),(r0.1.2.1,(r0.1.2.2.1,(r0.1.2.2.2.1,((r0.1.2.2.2.2.1+1),()))))),((r0.2.1.1,(r0.2.1.2.1,(r0.2.1.2.2.1,(r0.2.1.2.2.2.1,(r0.2.1.2.2.2.2.1,(r0.2.1.2.2.2.2.2.1,((),((),())))))))),(r0.2.2.1,(r0.2.2.2.1,()))))))))))))))else(some (Sum.inr (Sum.inl ((),((r0.2.1.1,(r0.2.1.2.1,(r0.2.1.2.2.1,(r0.2.1.2.2.2.1,(r0.2.1.2.2.2.2.1,(r0.2.1.2.2.2.2.2.1,((),((),())))))))),(r0.2.2.1,(r0.2.2.2.1,())))))))))
def go122(x1:(List Int))(x2:Int)(y0:ty111)(y1:(List Bool))(y2:(List Int)):(Option (Bool×ty115)):=(qaj (qap (go122_l1) (((),(x2,(x1,((x1.length:Int),(0,()))))),((y0.1,(y0.2.1,(y0.2.2.1,(y0.2.2.2.1,(y0.2.2.2.2.1,(y0.2.2.2.2.2.1,((),((),())))))))),(y1,(y2,()))))) (fun z0=>(qgu (fun z1=>(some (true,((z1.2.1.1,(z1.2.1.2.1,(z1.2.1.2.2.1,(z1.2.1.2.2.2.1,(z1.2.1.2.2.2.2.1,(z1.2.1.2.2.2.2.2.1,((),((),())))))))),(z1.2.2.1,(z1.2.2.2.1,())))))) (fun z1=>(some (z1.1.1,((z1.2.1.1,(z1.2.1.2.1,(z1.2.1.2.2.1,(z1.2.1.2.2.2.1,(z1.2.1.2.2.2.2.1,(z1.2.1.2.2.2.2.2.1,((),((),())))))))),(z1.2.2.1,(z1.2.2.2.1,())))))) z0)))
theorem run122(x1:(List Int))(x2:Int)(y0:(ByteArray×((List Int)×((List Arr)×((List qbd)×((List Int)×((List Block)×(Unit×(Unit×Unit)))))))))(y1:(List Bool))(y2:(List Int)):qdd (P:=Try.prog) [] Try.f122 ann122 [(0,(.ptr 0 0)),(1,(.fz (.int .i64))),(2,(.i .i64))] [(.cells 107 [.s,(.fz (.int .i64)),(.fz (.st 4)),(.fz (.st 5)),(.fz (.int .i64)),(.fz (.st 3)),(.full 1),(.full 2)]),(.lst 4 .bool),(.lst 3 (.int .i64))] .b [(.cells 107 [.s,(.fz (.int .i64)),(.fz (.st 4)),(.fz (.st 5)),(.fz (.int .i64)),(.fz (.st 3)),(.full 1),(.full 2)]),(.lst 4 .bool),(.lst 3 (.int .i64))] ((),(x1,(x2,()))) (y0,(y1,(y2,())))=go122 x1 x2 y0 y1 y2:=by kernel_rfl
def ann133:Ann:=(.seq .o (.join ⟨[(3,(.ptr 3 0))],sh147⟩ (.seq .o (.block (.join ⟨[(0,(.ptr 0 0)),(3,(.ptr 3 0)),(7,(.i .i64)),(8,.b)],sh147⟩ (.seq .o (.cond .o .o)) (.cond (.join sh141 (.seq .o (.cond (.seq .o .o) .o)) (.seq .o .o)) (.join ⟨[(0,(.ptr 0 0)),(3,(.ptr 3 0)),(35,.b)],sh147⟩ (.seq .o (.cond .o .o)) (.cond (.join sh141 (.seq .o (.cond (.seq .o .o) .o)) (.seq .o .o)) .o)))))) (.seq .o .o)))
def go133_j2:((Unit×(Unit×(Bool×Unit)))×(ty111×((List Bool)×((List Int)×(qat×Unit)))))->Option ((Int×(Bool×Unit))×ty115):=(fun z1=>(bif z1.1.2.2.1 then(bif(decide (z1.2.2.2.2.1.mem<0))then(some ((0,(false,())),((z1.2.1.1,(z1.2.1.2.1,(z1.2.1.2.2.1,(z1.2.1.2.2.2.1,(z1.2.1.2.2.2.2.1,(z1.2.1.2.2.2.2.2.1,((),((),())))))))),(z1.2.2.1,(z1.2.2.2.1,())))))else(bif(decide ((z1.2.1.2.2.2.1.length:Int)<=z1.2.2.2.2.1.mem))then(some ((0,(false,())),((z1.2.1.1,(z1.2.1.2.1,(z1.2.1.2.2.1,(z1.2.1.2.2.2.1,(z1.2.1.2.2.2.2.1,(z1.2.1.2.2.2.2.2.1,((),((),())))))))),(z1.2.2.1,(z1.2.2.2.1,())))))else(grd (okB ((0<=z1.2.2.2.2.1.mem)/\(z1.2.2.2.2.1.mem<(z1.2.1.2.2.2.1.length:Int)))) (bif(!((z1.2.1.2.2.2.1.getD z1.2.2.2.2.1.mem.toNat qbd.z).out==(decide (z1.2.2.2.2.1.op=28))))then(some ((0,(false,())),((z1.2.1.1,(z1.2.1.2.1,(z1.2.1.2.2.1,(z1.2.1.2.2.2.1,(z1.2.1.2.2.2.2.1,(z1.2.1.2.2.2.2.2.1,((),((),())))))))),(z1.2.2.1,(z1.2.2.2.1,())))))else(grd (okB ((0<=z1.2.2.2.2.1.mem)/\(z1.2.2.2.2.1.mem<(z1.2.1.2.2.2.1.length:Int)))) (some (((z1.2.1.2.2.2.1.getD z1.2.2.2.2.1.mem.toNat qbd.z).width,(true,())),((z1.2.1.1,(z1.2.1.2.1,(z1.2.1.2.2.1,(z1.2.1.2.2.2.1,(z1.2.1.2.2.2.2.1,(z1.2.1.2.2.2.2.2.1,((),((),())))))))),(z1.2.2.1,(z1.2.2.2.1,()))))))))))else(some ((0,((decide (z1.2.2.2.2.1.mem=0)),())),((z1.2.1.1,(z1.2.1.2.1,(z1.2.1.2.2.1,(z1.2.1.2.2.2.1,(z1.2.1.2.2.2.2.1,(z1.2.1.2.2.2.2.2.1,((),((),())))))))),(z1.2.2.1,(z1.2.2.2.1,())))))))
def go133_j1:((Unit×(Unit×(Int×(Bool×Unit))))×(ty111×((List Bool)×((List Int)×(qat×Unit)))))->Option ((Int×(Bool×Unit))×ty115):=(fun z0=>(bif z0.1.2.2.2.1 then(bif(decide (z0.2.2.2.2.1.mem<0))then(some ((0,(false,())),((z0.2.1.1,(z0.2.1.2.1,(z0.2.1.2.2.1,(z0.2.1.2.2.2.1,(z0.2.1.2.2.2.2.1,(z0.2.1.2.2.2.2.2.1,((),((),())))))))),(z0.2.2.1,(z0.2.2.2.1,())))))else(bif(decide ((z0.2.1.2.2.1.length:Int)<=z0.2.2.2.2.1.mem))then(some ((0,(false,())),((z0.2.1.1,(z0.2.1.2.1,(z0.2.1.2.2.1,(z0.2.1.2.2.2.1,(z0.2.1.2.2.2.2.1,(z0.2.1.2.2.2.2.2.1,((),((),())))))))),(z0.2.2.1,(z0.2.2.2.1,())))))else(grd (okB ((0<=z0.2.2.2.2.1.mem)/\(z0.2.2.2.2.1.mem<(z0.2.1.2.2.1.length:Int)))) (some (((z0.2.1.2.2.1.getD z0.2.2.2.2.1.mem.toNat Arr.z).width,(true,())),((z0.2.1.1,(z0.2.1.2.1,(z0.2.1.2.2.1,(z0.2.1.2.2.2.1,(z0.2.1.2.2.2.2.1,(z0.2.1.2.2.2.2.2.1,((),((),())))))))),(z0.2.2.1,(z0.2.2.2.1,()))))))))else(jpO (go133_j2) (fun j0=>(bif(decide (z0.1.2.2.1=27))then(j0 (((),((),(true,()))),((z0.2.1.1,(z0.2.1.2.1,(z0.2.1.2.2.1,(z0.2.1.2.2.2.1,(z0.2.1.2.2.2.2.1,(z0.2.1.2.2.2.2.2.1,((),((),())))))))),(z0.2.2.1,(z0.2.2.2.1,(z0.2.2.2.2.1,()))))))else(j0 (((),((),((decide (z0.1.2.2.1=28)),()))),((z0.2.1.1,(z0.2.1.2.1,(z0.2.1.2.2.1,(z0.2.1.2.2.2.1,(z0.2.1.2.2.2.2.1,(z0.2.1.2.2.2.2.2.1,((),((),())))))))),(z0.2.2.1,(z0.2.2.2.1,(z0.2.2.2.2.1,())))))))))))
def go133(x1:qat)(y0:ty111)(y1:(List Bool))(y2:(List Int)):(Option ((Int×(Bool×Unit))×ty115)):=(jpO (go133_j1) (fun j0=>(bif(decide (x1.op=25))then(j0 (((),((),(x1.op,(true,())))),((y0.1,(y0.2.1,(y0.2.2.1,(y0.2.2.2.1,(y0.2.2.2.2.1,(y0.2.2.2.2.2.1,((),((),())))))))),(y1,(y2,(x1,()))))))else(j0 (((),((),(x1.op,((decide (x1.op=26)),())))),((y0.1,(y0.2.1,(y0.2.2.1,(y0.2.2.2.1,(y0.2.2.2.2.1,(y0.2.2.2.2.2.1,((),((),())))))))),(y1,(y2,(x1,())))))))))
theorem run133(x1:qat)(y0:(ByteArray×((List Int)×((List Arr)×((List qbd)×((List Int)×((List Block)×(Unit×(Unit×Unit)))))))))(y1:(List Bool))(y2:(List Int)):qdd (P:=Try.prog) [] Try.f133 ann133 [(0,(.ptr 0 0)),(1,(.st 0))] [(.cells 107 [.s,(.fz (.int .i64)),(.fz (.st 4)),(.fz (.st 5)),(.fz (.int .i64)),(.fz (.st 3)),(.full 1),(.full 2)]),(.lst 4 .bool),(.lst 3 (.int .i64))] (.tup [(.i .i64),.b]) [(.cells 107 [.s,(.fz (.int .i64)),(.fz (.st 4)),(.fz (.st 5)),(.fz (.int .i64)),(.fz (.st 3)),(.full 1),(.full 2)]),(.lst 4 .bool),(.lst 3 (.int .i64))] ((),(x1,())) (y0,(y1,(y2,())))=go133 x1 y0 y1 y2:=by kernel_rfl
def ann150:Ann:=(.seq .o (.seq .o .o))
def go150(x0:Int)(x1:Int)(y0:(Unit×Unit))(y1:ty111)(y2:(List Bool))(y3:(List Int)):(Option (Bool×((Unit×Unit)×ty115))):=(bif(decide (0<=x1))then(bif(decide (x1<(y1.2.1.length:Int)))then(grd (okB ((0<=x0)/\(x0<(y1.2.1.length:Int)))) (grd (okB ((0<=x1)/\(x1<(y1.2.1.length:Int)))) (some ((decide ((y1.2.1.getD x0.toNat 0)=(y1.2.1.getD x1.toNat 0))),(((),()),((y1.1,(y1.2.1,(y1.2.2.1,(y1.2.2.2.1,(y1.2.2.2.2.1,(y1.2.2.2.2.2.1,((),((),())))))))),(y2,(y3,()))))))))else(some (false,(((),()),((y1.1,(y1.2.1,(y1.2.2.1,(y1.2.2.2.1,(y1.2.2.2.2.1,(y1.2.2.2.2.2.1,((),((),())))))))),(y2,(y3,())))))))else(some (false,(((),()),((y1.1,(y1.2.1,(y1.2.2.1,(y1.2.2.2.1,(y1.2.2.2.2.1,(y1.2.2.2.2.2.1,((),((),())))))))),(y2,(y3,())))))))
theorem run150(x0:Int)(x1:Int)(y0:(Unit×Unit))(y1:(ByteArray×((List Int)×((List Arr)×((List qbd)×((List Int)×((List Block)×(Unit×(Unit×Unit)))))))))(y2:(List Bool))(y3:(List Int)):qdd (P:=Try.prog) [] Try.f150 ann150 [(0,(.i .i64)),(1,(.i .i64)),(2,(.ptr 0 0))] [(.cells 105 [(.ptr 1 0)]),(.cells 107 [.s,(.fz (.int .i64)),(.fz (.st 4)),(.fz (.st 5)),(.fz (.int .i64)),(.fz (.st 3)),(.full 2),(.full 3)]),(.lst 4 .bool),(.lst 3 (.int .i64))] .b [(.cells 105 [(.ptr 1 0)]),(.cells 107 [.s,(.fz (.int .i64)),(.fz (.st 4)),(.fz (.st 5)),(.fz (.int .i64)),(.fz (.st 3)),(.full 2),(.full 3)]),(.lst 4 .bool),(.lst 3 (.int .i64))] (x0,(x1,((),()))) (y0,(y1,(y2,(y3,()))))=go150 x0 x1 y0 y1 y2 y3:=by kernel_rfl
def ann137:Ann:=(.seq .o (.seq .o .o))
def go137(x0:Int)(x1:Int)(y0:(Unit×Unit))(y1:ty111)(y2:(List Bool))(y3:(List Int)):(Option (Bool×((Unit×Unit)×ty115))):=(grd (okB ((0<=x0)/\(x0<(y1.2.1.length:Int)))) (some ((decide ((y1.2.1.getD x0.toNat 0)=x1)),(((),()),((y1.1,(y1.2.1,(y1.2.2.1,(y1.2.2.2.1,(y1.2.2.2.2.1,(y1.2.2.2.2.2.1,((),((),())))))))),(y2,(y3,())))))))
theorem run137(x0:Int)(x1:Int)(y0:(Unit×Unit))(y1:(ByteArray×((List Int)×((List Arr)×((List qbd)×((List Int)×((List Block)×(Unit×(Unit×Unit)))))))))(y2:(List Bool))(y3:(List Int)):qdd (P:=Try.prog) [] Try.f137 ann137 [(0,(.i .i64)),(1,(.i .i64)),(2,(.ptr 0 0))] [(.cells 105 [(.ptr 1 0)]),(.cells 107 [.s,(.fz (.int .i64)),(.fz (.st 4)),(.fz (.st 5)),(.fz (.int .i64)),(.fz (.st 3)),(.full 2),(.full 3)]),(.lst 4 .bool),(.lst 3 (.int .i64))] .b [(.cells 105 [(.ptr 1 0)]),(.cells 107 [.s,(.fz (.int .i64)),(.fz (.st 4)),(.fz (.st 5)),(.fz (.int .i64)),(.fz (.st 3)),(.full 2),(.full 3)]),(.lst 4 .bool),(.lst 3 (.int .i64))] (x0,(x1,((),()))) (y0,(y1,(y2,(y3,()))))=go137 x0 x1 y0 y1 y2 y3:=by kernel_rfl
def Sp.qyg(l:List Int):Int:=qdk (qhm (fun i=>!Sp.right (l.getD i 0)) l.length 0) (fun i=>(i:Int)) (-1)
theorem ok120(l:List Int)(hl:l.length<=LEN):go120 l ()=some (Sp.qyg l,()):=by
 rw[qcl]at hl;unfold go120 go120_l1 Sp.qyg;refine qa5 (qti (st:=fun i=>((l,(),((l.length:Nat):Int),(i:Int),()),())) rfl l.length (fun i=>!Sp.right (l.getD i 0)) (Sum.inl ((),())) (fun i=>Sum.inr (((i:Int),()),())) (fun i hi hp=>?_) (fun i hi hp=>?_) ?_) ?_
 ·have hp:Sp.right (l.getD i 0)=false:=by simpa using hp
  simp(maxSteps:=1000000) (disch:=((try dsimp only);omega)) only[↓gsA,gsB]
  rw[hp];rfl
 ·have hp:Sp.right (l.getD i 0)=true:=by simpa using hp
  simp(maxSteps:=1000000) (disch:=((try dsimp only);omega)) only[↓gsA,gsB]
  rw[hp];rfl
 ·simp(maxSteps:=1000000) (disch:=((try dsimp only);omega)) only[↓gsA,gsB]
 ·cases qhm (fun i=>!Sp.right (l.getD i 0)) l.length 0<;>rfl
def c120:Ctr Try.prog:=qbl 120 Try.f120 Try.func120 [c82] ann120 [(0,(.fz (.int .i64))),(1,(.fn 82 []))] [] (.i .i64) [] (fun x _=>grd (okB (x.1.length<=LEN)) (some (Sp.qyg x.1,()))) (fun x _ r h=>FO (run120 x.1 x.2.1) (ok120 x.1) h)
theorem q6z(l:List Int):decide (0<=Sp.qyg l)=!l.all Sp.right:=by
 unfold Sp.qyg;cases h:qhm (fun i=>!Sp.right (l.getD i 0)) l.length 0 with
 |none=>
  have:l.all Sp.right=true:=zjm.2 fun x hx=>by
   obtain⟨i,hi,rfl⟩:=List.mem_iff_getElem.1 hx;have:=qkc h i (zkt _) (by omega);simpa[zi5,hi]using this
  rw[this];rfl
 |some k=>
  obtain⟨_,h1,h2,_⟩:=qf3 h;have h1:k<l.length:=by omega
  have:l.all Sp.right=false:=List.all_eq_false.2 ⟨l[k],zj1 h1,by simpa[zi5,h1]using h2⟩;rw[this];simp[qdk]
def Sp.has(l:List ByteArray)(b:ByteArray):Bool:=l.any fun c=>decide (c=b)
def Sp.seen(l:List ByteArray):qb1->Option Bool
 |.s b=>if Sp.has l b=true then some true else none
 |.i _=>none
theorem q49:(fun _=>none:qb1->Option Bool)=Sp.seen []:=by
 funext k;cases k<;>simp[Sp.seen,Sp.has]
theorem qvk(l:List ByteArray)(b:ByteArray):qij (Sp.seen l) (.s b) true=Sp.seen (l++[b]):=by
 funext k;cases k with
 |i n=>simp[qij,Sp.seen]
 |s c=>
  simp only[qij,Sp.seen,Sp.has,qb1.s.injEq,List.any_append,List.any_cons,List.any_nil,Bool.or_false];by_cases h:c=b
  ·subst h;simp
  ·rw[if_neg h,decide_eq_false (fun e=>h e.symm),Bool.or_false];rfl
theorem qo2(l:List ByteArray)(b:ByteArray):Sp.fresh (Sp.seen l) b=(!Sp.has l b&&Sp.ident b):=by
 unfold Sp.fresh Sp.seen;cases h:Sp.has l b<;>simp[h]
def Sp.q8m(f:Fn)(i:Nat):Bool:=let a:=f.qag.getD i Arr.z
 Sp.fresh (Sp.seen (qc8 f i)) a.name&&(Sp.right a.width&&(!decide (a.len<1)&&(!decide (4096<a.len)&&Sp.qsx a)))
def Sp.q7r(f:Fn)(i:Nat):Bool:=let a:=f.streams.getD i qbd.z
 Sp.fresh (Sp.seen (qc5 f i)) a.name&&Sp.right a.width
def Sp.qsk(f:Fn):Bool:=(List.range f.qag.length).all (Sp.q8m f)&&((List.range f.streams.length).all (Sp.q7r f)&&(decide ((f.qag.length:Int)<=64)&&decide ((f.streams.length:Int)<=64)))
theorem qu3(f:Fn){i:Nat}(h:i<f.qag.length):qc8 f (i+1)=qc8 f i++[(f.qag.getD i Arr.z).name]:=by
 unfold qc8;rw[zld h,zkw,zi5,zjc h];rfl
theorem qto(f:Fn){i:Nat}(h:i<f.streams.length):qc5 f (i+1)=qc5 f i++[(f.streams.getD i qbd.z).name]:=by
 unfold qc5;rw[zld h,zkw,zi5,zjc h,zkr];rfl
theorem q92(f:Fn)(hf:f.ok):qap go81_l1 (((),((),()),f.qag,((f.qag.length:Nat):Int),(0:Int),()),f,((),()),Sp.seen [],()) =
  some (if(List.range f.qag.length).all (Sp.q8m f)then Sum.inl (((),((),()),()),f,((),()),Sp.seen (qc8 f f.qag.length),())else Sum.inr ((false,()),())):=by
 have hx:=hf.2.2.1.len;rw[qcl]at hx;unfold go81_l1;refine qa6 (l:=List.range f.qag.length) (st:=fun i=>(((),((),()),f.qag,((f.qag.length:Nat):Int),(i:Int),()),f,((),()),Sp.seen (qc8 f i),())) rfl 0 (Sp.q8m f) (A:=Sum.inl (((),((),()),()),f,((),()),Sp.seen (qc8 f f.qag.length),())) (B:=Sum.inr ((false,()),())) (fun i hi hp=>?_) (fun i hi hp=>?_) (fun _=>?_)
 ·rw[zjb]at hi;rw[qaw hi]at hp;simp only[Sp.q8m,zi4]at hp;obtain⟨h1,h2,h3,h4,h5⟩:=hp;have h3:¬ (f.qag.getD i Arr.z).len<1:=by simpa using h3
  have h4:¬ 4096<(f.qag.getD i Arr.z).len:=by simpa using h4
  simp only[zja,h1,h2,h5];simp(maxSteps:=1000000) (disch:=((try dsimp only);omega)) only[↓gsA,gsB]
  rw[qvk,<- qu3 f hi]
 ·rw[zjb]at hi;rw[qaw hi]at hp;simp only[Sp.q8m]at hp;simp only[zja];simp(maxSteps:=1000000) (disch:=((try dsimp only);omega)) only[↓gsA,gsB]
  cases q1:Sp.fresh (Sp.seen (qc8 f i)) (f.qag.getD i Arr.z).name<;>cases q2:Sp.right (f.qag.getD i Arr.z).width<;>cases q5:Sp.qsx (f.qag.getD i Arr.z)<;>by_cases q3:(f.qag.getD i Arr.z).len<1<;>by_cases q4:4096<(f.qag.getD i Arr.z).len<;>simp only[q3,q4,if_true,if_false,zju,zj4,cond_true,cond_false]<;>first
   |rfl
   |(exfalso;rw[q1,q2,q5,decide_eq_false q3,decide_eq_false q4]at hp;cases hp)
 ·rw[zjb];simp(maxSteps:=1000000) (disch:=((try dsimp only);omega)) only[↓gsA,gsB]
theorem q91(f:Fn)(hf:f.ok):qap go81_l2 (((),((),()),f.streams,((f.streams.length:Nat):Int),(0:Int),()),f,((),()),Sp.seen (qc8 f f.qag.length),()) =
  some (if(List.range f.streams.length).all (Sp.q7r f)then Sum.inl (((),()),f,())else Sum.inr ((false,()),())):=by
 have hx:=hf.2.2.2.1.len;rw[qcl]at hx;have e0:qc8 f f.qag.length=qc5 f 0:=by simp[qc8,qc5]
 rw[e0];unfold go81_l2;refine qa6 (l:=List.range f.streams.length) (st:=fun i=>(((),((),()),f.streams,((f.streams.length:Nat):Int),(i:Int),()),f,((),()),Sp.seen (qc5 f i),())) rfl 0 (Sp.q7r f) (A:=Sum.inl (((),()),f,())) (B:=Sum.inr ((false,()),())) (fun i hi hp=>?_) (fun i hi hp=>?_) (fun _=>?_)
 ·rw[zjb]at hi;rw[qaw hi]at hp;simp only[Sp.q7r,zi4]at hp;obtain⟨h1,h2⟩:=hp;simp only[zja,h1,h2];simp(maxSteps:=1000000) (disch:=((try dsimp only);omega)) only[↓gsA,gsB]
  rw[qvk,<- qto f hi]
 ·rw[zjb]at hi;rw[qaw hi]at hp;simp only[Sp.q7r]at hp;simp only[zja];simp(maxSteps:=1000000) (disch:=((try dsimp only);omega)) only[↓gsA,gsB]
  cases q1:Sp.fresh (Sp.seen (qc5 f i)) (f.streams.getD i qbd.z).name<;>cases q2:Sp.right (f.streams.getD i qbd.z).width<;>first|rfl|(rw[q1,q2]at hp;cases hp)
 ·rw[zjb];simp(maxSteps:=1000000) (disch:=((try dsimp only);omega)) only[↓gsA,gsB]
theorem ok81(f:Fn)(hf:f.ok):go81 f=some (Sp.qsk f,()):=by
 unfold go81 Sp.qsk;rw[q49];refine qa5 (q92 f hf) ?_;cases(List.range f.qag.length).all (Sp.q8m f)with
 |false=>rfl
 |true=>
  rw[if_pos rfl,qdb];refine qa5 (q91 f hf) ?_;cases(List.range f.streams.length).all (Sp.q7r f)with
  |false=>rfl
  |true=>
   rw[if_pos rfl,qdb];by_cases h:(f.qag.length:Int)<=64<;>simp[h]
def c81:Ctr Try.prog:=qbl 81 Try.f81 Try.func81 [c118,c83,c119] ann81 [(0,(.st 6))] [] .b [] (fun x _=>grd (okB x.1.ok) (some (Sp.qsk x.1,()))) (fun x _ r h=>FO (run81 x.1) (ok81 x.1) h)
@[reducible] def CK:Type:=ByteArray×List Int×List Arr×List qbd×List Int×List Block×Unit×Unit×Unit
@[reducible] def pkF (f:Fn):CK:=(f.name,f.qaa,f.qag,f.streams,f.qax,f.blocks,(),(),())
@[reducible] def mkF (y:CK):Fn:=⟨y.1,y.2.1,y.2.2.1,y.2.2.2.1,y.2.2.2.2.1,y.2.2.2.2.2.1⟩
def Sp.qgs(d:List Bool)(v:Int):Bool:=!decide (v<0)&&(!decide ((d.length:Int)<=v)&&!d.getD v.toNat false)
def Sp.quf(d:List Bool)(v:Int):List Bool:=if Sp.qgs d v then d.set v.toNat true else d
def Sp.que(d:List Bool)(k:List Int)(v b:Int):List Int:=if Sp.qgs d v then k.set v.toNat (b+1)else k
def Bk(b:Int):Prop:=0<=b/\b<=1048576
theorem ok121(v b:Int)(f:Fn)(d:List Bool)(k:List Int)(h:Bk b/\k.length=d.length):go121 v b (pkF f) d k=some (Sp.qgs d v,pkF f,Sp.quf d v,Sp.que d k v b,()):=by
 obtain⟨⟨hb,hb'⟩,hk⟩:=h;unfold go121 Sp.quf Sp.que Sp.qgs;by_cases h1:v<0
 ·simp[h1]
 by_cases h2:(d.length:Int)<=v
 ·simp[h1,h2]
 have h3:v.toNat<d.length:=by omega
 have h4:v.toNat<k.length:=by omega
 rw[decide_eq_false h1,decide_eq_false h2];cases h5:d.getD v.toNat false with
 |true=>simp(maxSteps:=1000000) (disch:=((try dsimp only);omega)) only[↓gsA,gsB];rfl
 |false=>simp(maxSteps:=1000000) (disch:=((try dsimp only);omega)) only[↓gsA,gsB];rfl
def c121:Ctr Try.prog:=qbl 121 Try.f121 Try.func121 [] ann121 [(0,(.ptr 0 0)),(1,(.i .i64)),(2,(.i .i64))] [(.cells 107 [.s,(.fz (.int .i64)),(.fz (.st 4)),(.fz (.st 5)),(.fz (.int .i64)),(.fz (.st 3)),(.full 1),(.full 2)]),(.lst 4 .bool),(.lst 3 (.int .i64))] .b [(.cells 107 [.s,(.fz (.int .i64)),(.fz (.st 4)),(.fz (.st 5)),(.fz (.int .i64)),(.fz (.st 3)),(.full 1),(.full 2)]),(.lst 4 .bool),(.lst 3 (.int .i64))] (fun x y=>grd (okB (Bk x.2.2.1/\y.2.2.1.length=y.2.1.length)) (some (Sp.qgs y.2.1 x.2.1,y.1,Sp.quf y.2.1 x.2.1,Sp.que y.2.1 y.2.2.1 x.2.1 x.2.2.1,())))
 (fun x y r h=>FO (run121 x.2.1 x.2.2.1 y.1 y.2.1 y.2.2.1) (ok121 x.2.1 x.2.2.1 (mkF y.1) y.2.1 y.2.2.1) h)
def Sp.qgk(k:List Int)(l:List Int)(b:Int):Bool:=l.all fun v=>!decide (v<0)&&(!decide ((k.length:Int)<=v)&&decide (k.getD v.toNat 0=b+1))
theorem ok122(l:List Int)(b:Int)(f:Fn)(d:List Bool)(k:List Int)(h:Bk b/\l.length<=LEN):go122 l b (pkF f) d k=some (Sp.qgk k l b,pkF f,d,k,()):=by
 obtain⟨⟨hb,hb'⟩,hl⟩:=h;rw[qcl]at hl;unfold go122 go122_l1;refine qa5 (qa6 (l:=l) (st:=fun i=>(((),b,l,((l.length:Nat):Int),(i:Int),()),pkF f,d,k,())) rfl 0 (fun v=>!decide (v<0)&&(!decide ((k.length:Int)<=v)&&decide (k.getD v.toNat 0=b+1))) (A:=Sum.inl ((),pkF f,d,k,())) (B:=Sum.inr ((false,()),pkF f,d,k,())) (fun i hi hp=>?_) (fun i hi hp=>?_) (fun _=>?_)) ?_
 ·simp only[zi4,zjo,decide_eq_true_eq,decide_eq_false_iff_not]at hp;obtain⟨h1,h2,h3⟩:=hp;have h4:(l.getD i 0).toNat<k.length:=by omega
  simp(maxSteps:=1000000) (disch:=((try dsimp only);omega)) only[↓gsA,gsB]
 ·simp only[zja];by_cases h1:l.getD i 0<0
  ·simp(maxSteps:=1000000) (disch:=((try dsimp only);omega)) only[↓gsA,gsB]
  by_cases h2:(k.length:Int)<=l.getD i 0
  ·simp(maxSteps:=1000000) (disch:=((try dsimp only);omega)) only[↓gsA,gsB]
  have h4:(l.getD i 0).toNat<k.length:=by omega
  have h3:¬ k.getD (l.getD i 0).toNat 0=b+1:=by rw[decide_eq_false h1,decide_eq_false h2]at hp;exact of_decide_eq_false hp
  simp(maxSteps:=1000000) (disch:=((try dsimp only);omega)) only[↓gsA,gsB]
 ·simp(maxSteps:=1000000) (disch:=((try dsimp only);omega)) only[↓gsA,gsB]
 ·unfold Sp.qgk;cases l.all fun v=>!decide (v<0)&&(!decide ((k.length:Int)<=v)&&decide (k.getD v.toNat 0=b+1))<;>rfl
def c122:Ctr Try.prog:=qbl 122 Try.f122 Try.func122 [] ann122 [(0,(.ptr 0 0)),(1,(.fz (.int .i64))),(2,(.i .i64))] [(.cells 107 [.s,(.fz (.int .i64)),(.fz (.st 4)),(.fz (.st 5)),(.fz (.int .i64)),(.fz (.st 3)),(.full 1),(.full 2)]),(.lst 4 .bool),(.lst 3 (.int .i64))] .b [(.cells 107 [.s,(.fz (.int .i64)),(.fz (.st 4)),(.fz (.st 5)),(.fz (.int .i64)),(.fz (.st 3)),(.full 1),(.full 2)]),(.lst 4 .bool),(.lst 3 (.int .i64))] (fun x y=>grd (okB (Bk x.2.2.1/\x.2.1.length<=LEN)) (some (Sp.qgk y.2.2.1 x.2.1 x.2.2.1,y.1,y.2.1,y.2.2.1,())))
 (fun x y r h=>FO (run122 x.2.1 x.2.2.1 y.1 y.2.1 y.2.2.1) (ok122 x.2.1 x.2.2.1 (mkF y.1) y.2.1 y.2.2.1) h)
def Sp.qtf(f:Fn)(x:qat):Int×Bool:=
 if x.op=25\/x.op=26 then(if x.mem<0\/(f.qag.length:Int)<=x.mem then(0,false)else((f.qag.getD x.mem.toNat Arr.z).width,true))
 else if x.op=27\/x.op=28 then(if(x.mem<0\/(f.streams.length:Int)<=x.mem)\/(f.streams.getD x.mem.toNat qbd.z).out≠decide (x.op=28)then(0,false)else((f.streams.getD x.mem.toNat qbd.z).width,true))
 else(0,decide (x.mem=0))
theorem ok133(x:qat)(f:Fn)(d:List Bool)(k:List Int):go133 x (pkF f) d k=some (((Sp.qtf f x).1,(Sp.qtf f x).2,()),pkF f,d,k,()):=by
 unfold go133 go133_j1 go133_j2 Sp.qtf;simp only[qcp,qb8];have hA:∀ {β:Type} (y:Option β),¬ x.mem<0->¬ (f.qag.length:Int)<=x.mem->grd (okB (0<=x.mem/\x.mem<(f.qag.length:Int))) y=y:=fun y h1 h2=>qak (by omega);have hS:∀ {β:Type} (y:Option β),¬ x.mem<0->¬ (f.streams.length:Int)<=x.mem->grd (okB (0<=x.mem/\x.mem<(f.streams.length:Int))) y=y:=fun y h1 h2=>qak (by omega);by_cases h1:x.op=25
 ·by_cases m1:x.mem<0<;>by_cases m2:(f.qag.length:Int)<=x.mem<;>simp[h1,m1,m2,hA]
 by_cases h2:x.op=26
 ·by_cases m1:x.mem<0<;>by_cases m2:(f.qag.length:Int)<=x.mem<;>simp[h2,m1,m2,hA]
 by_cases h3:x.op=27
 ·by_cases m1:x.mem<0<;>by_cases m2:(f.streams.length:Int)<=x.mem<;>cases m3:(f.streams.getD x.mem.toNat qbd.z).out<;>simp[h3,m1,m2,hS,m3]<;>simp_all
 by_cases h4:x.op=28
 ·by_cases m1:x.mem<0<;>by_cases m2:(f.streams.length:Int)<=x.mem<;>cases m3:(f.streams.getD x.mem.toNat qbd.z).out<;>simp[h4,m1,m2,hS,m3]<;>simp_all
 simp[h1,h2,h3,h4]
def c133:Ctr Try.prog:=qbl 133 Try.f133 Try.func133 [] ann133 [(0,(.ptr 0 0)),(1,(.st 0))] [(.cells 107 [.s,(.fz (.int .i64)),(.fz (.st 4)),(.fz (.st 5)),(.fz (.int .i64)),(.fz (.st 3)),(.full 1),(.full 2)]),(.lst 4 .bool),(.lst 3 (.int .i64))] (.tup [(.i .i64),.b]) [(.cells 107 [.s,(.fz (.int .i64)),(.fz (.st 4)),(.fz (.st 5)),(.fz (.int .i64)),(.fz (.st 3)),(.full 1),(.full 2)]),(.lst 4 .bool),(.lst 3 (.int .i64))] (fun x y=>some (((Sp.qtf (mkF y.1) x.2.1).1,(Sp.qtf (mkF y.1) x.2.1).2,()),y.1,y.2.1,y.2.2.1,()))
 (fun x y r h=>FE (run133 x.2.1 y.1 y.2.1 y.2.2.1) (ok133 x.2.1 (mkF y.1) y.2.1 y.2.2.1) h)
def Fn.inW(f:Fn)(v:Int):Prop:=0<=v/\v<(f.qaa.length:Int)
def Sp.qg9(f:Fn)(v p:Int):Bool:=Sp.within f p&&decide (f.qaa.getD v.toNat 0=f.qaa.getD p.toNat 0)
theorem ok150(v p:Int)(f:Fn)(d:List Bool)(k:List Int)(h:f.inW v):go150 v p ((),()) (pkF f) d k=some (Sp.qg9 f v p,((),()),pkF f,d,k,()):=by
 obtain⟨h1,h2⟩:=h;unfold go150 Sp.qg9 Sp.within
 by_cases h3:0<=p<;>by_cases h4:p<(f.qaa.length:Int)<;>first|(exfalso;omega)|(simp(maxSteps:=1000000) (disch:=((try dsimp only);omega)) only[↓gsA,gsB]<;>simp only[h3,h4,decide_true,decide_false,zjy,Bool.false_and,Bool.and_false])
def c150:Ctr Try.prog:=qbl 150 Try.f150 Try.func150 [] ann150 [(0,(.i .i64)),(1,(.i .i64)),(2,(.ptr 0 0))] [(.cells 105 [(.ptr 1 0)]),(.cells 107 [.s,(.fz (.int .i64)),(.fz (.st 4)),(.fz (.st 5)),(.fz (.int .i64)),(.fz (.st 3)),(.full 2),(.full 3)]),(.lst 4 .bool),(.lst 3 (.int .i64))] .b [(.cells 105 [(.ptr 1 0)]),(.cells 107 [.s,(.fz (.int .i64)),(.fz (.st 4)),(.fz (.st 5)),(.fz (.int .i64)),(.fz (.st 3)),(.full 2),(.full 3)]),(.lst 4 .bool),(.lst 3 (.int .i64))] (fun x y=>grd (okB ((mkF y.2.1).inW x.1)) (some (Sp.qg9 (mkF y.2.1) x.1 x.2.1,((),()),y.2.1,y.2.2.1,y.2.2.2.1,())))
 (fun x y r h=>FO (run150 x.1 x.2.1 y.1 y.2.1 y.2.2.1 y.2.2.2.1) (ok150 x.1 x.2.1 (mkF y.2.1) y.2.2.1 y.2.2.2.1) h)
theorem ok137(v w:Int)(f:Fn)(d:List Bool)(k:List Int)(h:f.inW v):go137 v w ((),()) (pkF f) d k=some (decide (f.qaa.getD v.toNat 0=w),((),()),pkF f,d,k,()):=by
 obtain⟨h1,h2⟩:=h;unfold go137;simp(maxSteps:=1000000) (disch:=((try dsimp only);omega)) only[↓gsA,gsB]
def c137:Ctr Try.prog:=qbl 137 Try.f137 Try.func137 [] ann137 [(0,(.i .i64)),(1,(.i .i64)),(2,(.ptr 0 0))] [(.cells 105 [(.ptr 1 0)]),(.cells 107 [.s,(.fz (.int .i64)),(.fz (.st 4)),(.fz (.st 5)),(.fz (.int .i64)),(.fz (.st 3)),(.full 2),(.full 3)]),(.lst 4 .bool),(.lst 3 (.int .i64))] .b [(.cells 105 [(.ptr 1 0)]),(.cells 107 [.s,(.fz (.int .i64)),(.fz (.st 4)),(.fz (.st 5)),(.fz (.int .i64)),(.fz (.st 3)),(.full 2),(.full 3)]),(.lst 4 .bool),(.lst 3 (.int .i64))] (fun x y=>grd (okB ((mkF y.2.1).inW x.1)) (some (decide ((mkF y.2.1).qaa.getD x.1.toNat 0=x.2.1),((),()),y.2.1,y.2.2.1,y.2.2.2.1,())))
 (fun x y r h=>FO (run137 x.1 x.2.1 y.1 y.2.1 y.2.2.1 y.2.2.2.1) (ok137 x.1 x.2.1 (mkF y.2.1) y.2.2.1 y.2.2.2.1) h)
end
end Go.Abs
