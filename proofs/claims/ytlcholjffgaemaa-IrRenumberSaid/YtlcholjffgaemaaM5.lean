/-
Texts of the proof, part 5: J8 H8 H9 HA HB Tc Su Sd.
No statement of the program is proved here.
-/
import Derived.Test.YtlcholjffgaemaaM4
set_option linter.unusedVariables false
set_option linter.unusedSimpArgs false
set_option linter.unusedSectionVars false
namespace Go.Abs
open Go
variable {P:Program} {Q:Exit->St->Prop} {st:St}
theorem qz0{g:GOp}{u:V}{E:Env}{M:Id->Option Nat}{F:Nat->Prop}{a:Act}{w:World}(h:QG P g u st)(hv:Val P g.oper)(hr:Rd P (execOp a.eval g.oper))(r:Rel E M F st a w) :
  ∃v F',Rel E M F' (st.put g.dst u) (a.put g.dst v) w/\((g.wanted a.tmps=true/\(execOp a.eval g.oper).run P w=.ok (.value v) w)\/(g.wanted a.tmps=false/\v=undef)):=by
 have hrun:QO P ⟨g.dst,g.op,g.type,none⟩ u (st.only (rds g.op))->∃v F',Rel E M F' (st.put g.dst u) (a.put g.dst v) w/\(execOp a.eval g.oper).run P w=.ok (.value v) w:=by
  intro hq;have hrel:Rel E M F (st.only (rds g.op)) a w:=r.congr rfl rfl (fun t=>by
   simp only[St.only];cases hm:q2o (rds g.op) t with
   |false=>exact .inr rfl
   | true=>exact .inl rfl)
  have h1:=hq E M F a w hrel;have h1:g.oper.wp P a w (fun a' w'=>∃c F',a'=a.put g.dst c/\Go.Abs.q97 w F w' F'/\qay st.heap M F' w' u c) (fun _ _ _=>False):=h1;unfold Oper.wp at h1;cases he:(execOp a.eval g.oper).run P w with
  |halt x w'=>rw[he]at h1;cases x<;>simp only[Oper.upon]at h1
  |ok n w'=>
   obtain⟨v,rfl⟩:=hv _ _ _ _ he;obtain⟨rfl,_⟩:=hr _ _ _ he;rw[he]at h1;simp only[Oper.upon]at h1;obtain⟨c,F',e1,gr,hc⟩:=h1;obtain⟨r2,x2⟩:=r.h.grown gr;have e1:a.put g.dst v=a.put g.dst c:=e1;refine⟨v,F',?_,rfl⟩;rw[e1];exact r.put r2 x2 _ hc
 cases hg:g.g with
 |none=>
  have hw:g.wanted a.tmps=true:=by unfold GOp.wanted;rw[hg]
  unfold QG at h;rw[hg]at h;obtain⟨v,F',h1,h2⟩:=hrun h;exact⟨v,F',h1,.inl ⟨hw,h2⟩⟩
 |some gw=>
  obtain⟨gt,want⟩:=gw;unfold QG at h;rw[hg]at h;cases gt with
  |none=>exact h.elim
  |some t=>
   have tv:=r.env t;rcases h with⟨hlt,b,hb,hy,hn⟩|⟨hb,hn⟩
   ·rw[hb]at tv;have tv:a.tmps.getD t undef=.bool b:=tv;have he:a.tmps[t]?=some (.bool b):=by
     have hlt':t<a.tmps.size:=by rw[r.nt];exact zg4 hlt
     rw[zhl,zhp hlt',zhi]at tv;rw[zhp hlt',tv]
    have hw:g.wanted a.tmps=(b==want):=by
     unfold GOp.wanted;simp only[hg,he]
    by_cases hbw:b=want
    ·obtain⟨v,F',h1,h2⟩:=hrun (hy hbw);exact⟨v,F',h1,.inl ⟨by rw[hw,hbw,beq_self_eq_true],h2⟩⟩
    ·have hb2:b=!want:=by cases b<;>cases want<;>simp_all
     rw[hn hb2];exact⟨undef,F,r.qgf _ (u:=.und) (v:=undef) rfl,.inr ⟨by rw[hw];simpa using hbw,rfl⟩⟩
   ·rw[hb]at tv;have tv:a.tmps.getD t undef=undef:=tv;have hw:g.wanted a.tmps=false:=by
     unfold GOp.wanted;simp only[hg];rw[zhl]at tv;cases he:a.tmps[t]? with
     |none=>rfl
     |some v=>
      rw[he,zhi]at tv;subst tv;rfl
    rw[hn];exact⟨undef,F,r.qgf _ (u:=.und) (v:=undef) rfl,.inr ⟨hw,rfl⟩⟩
theorem qv3(ρ:Operand->Value)(all:List Oper)(o:Oper):execOp ρ (Oper.gop all o).oper=execOp ρ o:=by
 obtain⟨dst,op,type,pos,after,guard⟩:=o;cases op<;>rfl
def YR(P:Program)(R:World->World->Prop)(A:Array Oper)(o:Oper)(v:Value)(a:Act)(w:World):Prop:=
 (Region.wanted o (yielded A a.tmps)=true/\∀w2,R w w2->(execOp a.eval o).run P w2=.ok (.value v) w2)\/(Region.wanted o (yielded A a.tmps)=false/\v=undef)
section
variable {R:World->World->Prop}
theorem YR.of_same(ht:∀a b c,R a b->R b c->R a c){A:Array Oper}{o:Oper}{v:Value}{a a':Act}{w w':World}(hy:YR P R A o v a w)(g:R w w')(he:execOp a'.eval o=execOp a.eval o)
  (hw:Region.wanted o (yielded A a'.tmps)=Region.wanted o (yielded A a.tmps)):YR P R A o v a' w':=by
 unfold YR at *;rw[he,hw];exact hy.imp (fun⟨h1,h2⟩=>⟨h1,fun w2 g2=>h2 w2 (ht _ _ _ g g2)⟩) id
theorem YR.wpOp(hr:∀w,R w w){A:Array Oper}{Q:Exit->Act->World->Prop}{i:Nat}{o:Oper}{v:Value}{a:Act}{w:World}(hi:A[i]?=some o)(hy:YR P R A o v a w){K:Act->World->Prop}(h:K (a.put o.dst v) w):wpOp P A Q i K a w:=by
 unfold Go.wpOp;simp only[hi];rcases hy with⟨hw,hv⟩|⟨hw,rfl⟩
 ·simp only[hw,if_true,Oper.wp,hv w (hr w),Oper.upon];exact .inl h
 ·simp only[hw,zhs,if_false];exact h
theorem qx5(hr:∀w,R w w)(ht:∀a b c,R a b->R b c->R a c)(hG:∀w w',Grown w w'->R w w'){A:Array Oper}{J:Nat->Bool}{E:Env}{j:Nat}{oi oj:Oper}{v:Value}(hj:A[j]?=some oj)(hap:oi.apart A oj=true)(hsi:∀cs b,oi.op≠.select cs b)(hsj:∀cs b,oj.op≠.select cs b)
  (hc:(∀w w',R w w')\/J j=true\/(Val P oj/\∀ρ,Gr P (execOp ρ oj))) {K:Act->World->Prop} {a:Act} {w:World} (hy:YR P R A oi v a w)
  (h:wpOp P A (qjj E Q) j (fun a' w'=>(J j=true->Grown w w')/\K a' w') (a.put oi.dst v) w) :
  wpOp P A (qjj E Q) j (fun a' w'=>YR P R A oi v a' w'/\(J j=true->Grown w w')/\K (a'.put oi.dst v) w') a w:=by
 obtain⟨h1,h2,h3⟩:=Oper.apart_spec hap;have keep:∀(a:Act) (u:Value) (w w':World),R w w'->YR P R A oi v a w->YR P R A oi v (a.put oj.dst u) w':=fun a u w w' g hy=>
  hy.of_same ht g (execOp_put oi hsi a oj.dst u h3) (wanted_put oi a oj.dst u h3)
 have keepD:∀d w',R w w'->YR P R A oi v { a with defers:=d::a.defers } w':=fun d w' g=>hy.of_same ht g rfl rfl;unfold wpOp at *;simp only[hj]at *;rw[wanted_put oj a oi.dst v h1]at h;split
 ·rename_i hw;simp only[hw,if_true]at h;rcases h with h|⟨_,a',w',hl⟩
  ·refine .inl ?_;unfold Oper.wp at *;rw[execOp_put oj hsj a oi.dst v h1]at h;cases hrun:(execOp a.eval oj).run P w with
   |ok n w'=>
    have key:(∃u,n=.value u)\/((∀w w',R w w')\/J j=true):=by
     rcases hc with hc|hc|hc
     ·exact .inr (.inl hc)
     ·exact .inr (.inr hc)
     ·exact .inl (hc.1 _ _ _ _ hrun)
    have k1:∀ {w''},((∀w w',R w w')\/J j=true)->(J j=true->Grown w w'')->R w w'':=fun k g=>k.elim (fun k=>k _ _) (fun k=>hG _ _ (g k));rw[hrun]at h;cases n<;>simp only[Oper.upon]at h ⊢
    case value u=>
     have hR:R w w':=by
      rcases hc with hc|hc|hc
      ·exact hc _ _
      ·exact hG _ _ (h.1 hc)
      ·exact hG _ _ (hc.2 _ _ _ _ hrun)
     exact⟨keep a u w w' hR hy,h.1,by rw[<- Act.put_comm a v u h2];exact h.2⟩
    case skip=>
     rcases key with⟨u,hu⟩|key
     ·cases hu
     ·exact⟨keep a _ w w' (k1 key h.1) hy,h.1,by rw[<- Act.put_comm a v undef h2];exact h.2⟩
    case defer d=>
     rcases key with⟨u,hu⟩|key
     ·cases hu
     ·refine⟨keep _ _ w' w' (hr w') (keepD d w' (k1 key h.1)),h.1,?_⟩;rw[<- Act.put_comm _ v undef h2,<- Act.put_defers];exact h.2
    case enter f args=>
     rcases key with⟨u,hu⟩|key
     ·cases hu
     ·refine Calls.mono h fun e w'' he=>?_;cases e with
      |returned u=>exact⟨keep a u w w'' (k1 key he.1) hy,he.1,by rw[<- Act.put_comm a v u h2];exact he.2⟩
      |panicked c=>exact he.elim
      |outgrown=>exact he
    case row row args=>
     rcases key with⟨u,hu⟩|key
     ·cases hu
     ·exact Rows.mono h fun u w'' he=>⟨keep a u w w'' (k1 key he.1) hy,he.1,by rw[<- Act.put_comm a v u h2];exact he.2⟩
   |halt x w'=>
    rw[hrun]at h;cases x<;>simp only[Oper.upon]at h ⊢
    exact h
  ·exact hl.elim
 ·rename_i hw;simp only[hw]at h;exact⟨keep a _ w w (hr w) hy,h.1,by rw[<- Act.put_comm a v undef h2];exact h.2⟩
theorem qo9(hr:∀w,R w w)(ht:∀a b c,R a b->R b c->R a c)(hG:∀w w',Grown w w'->R w w'){A:Array Oper}{J:Nat->Bool}{E:Env}{i:Nat}{oi:Oper}{v:Value}{ab:List Nat}(hab:quk A ab)(hi:A[i]?=some oi)(hsel:∀(j:Nat) (o:Oper) cs b,A[j]?=some o->o.op≠.select cs b) :
  ∀(fuel:Nat) (D:List Nat) (listed:Array Bool) (a:Act) (w:World),qhu A listed D->qsx A (·∈D)->i∉D ->
   (∀j oj,A[j]?=some oj->j≠i->j∉D->i∉qd4 A j->(qkq ab j).testBit i=false->oi.apart A oj=true/\((∀w w',R w w')\/J j=true\/(Val P oj/\∀ρ,Gr P (execOp ρ oj)))) ->
   i∈Region.ready .any A listed->YR P R A oi v a w ->
   qee P A J (qjj E Q) fuel (listed.setIfInBounds i true) (a.put oi.dst v) w->qee P A J (qjj E Q) (fuel+1) listed a w:=by
 intro fuel
 induction fuel with
 |zero=>
  intro D listed a w _ _ _ _ hr' hy H;refine⟨fun h=>(by rw[h]at hr';cases hr'),fun j hj=>?_⟩
  by_cases hji:j=i
  ·subst hji;exact hy.wpOp hr hi ⟨fun _=>Grown.refl w,H⟩
  ·have:=ready_mono hj hji;rw[H.1]at this;cases this
 |succ fuel ih=>
  intro D listed a w hh hc hiD hfree hr' hy H;refine⟨fun h=>(by rw[h]at hr';cases hr'),fun j hj=>?_⟩
  by_cases hji:j=i
  ·subst hji;exact hy.wpOp hr hi ⟨fun _=>Grown.refl w,H⟩
  ·have h1:=H.2 j (ready_mono hj hji);obtain⟨hjlt,hjD,hjE⟩:=hh.ready hj;obtain⟨_,oj,hoj,_⟩:=mem_ready.1 hj;have hanc:(qkq ab j).testBit i=false:=by
    cases hb:(qkq ab j).testBit i with
    |false=>rfl
    |true=>exact absurd (hab (fun k=>k∈D) hc _ _ hb hjE) hiD
   obtain⟨f1,f2⟩:=hfree j oj hoj hji hjD (fun he=>hiD (hjE i he)) hanc;have h2:=qx5 hr ht hG (Q:=Q) (E:=E) hoj f1 (fun cs b=>hsel i oi cs b hi) (fun cs b=>hsel j oj cs b hoj) f2 hy h1;refine wpOp_mono (fun a' w' h3=>⟨h3.2.1,ih (D++[j]) (listed.setIfInBounds j true) a' w' (hh.set j) ?_ ?_ ?_ (ready_mono hr' (Ne.symm hji)) h3.1 ?_⟩) h2
   ·intro k hk e he;rcases zhj.1 hk with h|h
    ·exact zho _ (hc k h e he)
    ·have:k=j:=by simpa using h
     exact zho _ (hjE e (this▸he))
   ·intro hm;rcases zhj.1 hm with h|h
    ·exact hiD h
    ·exact hji (Eq.symm (by simpa using h))
   ·exact fun k ok hk hki hun he ha=>hfree k ok hk hki (fun hm=>hun (zho _ hm)) he ha
   ·rw[Array.setIfInBounds_comm _ _ hji];exact h3.2.2
end
def zck(P:Program)[Tys P](A:Array Oper)(ab:List Nat)(J:Nat->Bool)(D:List Nat)(i:Nat):Bool:=
 match A[i]? with
 |none=>false
 |some oi=>(List.range A.size).all fun j=>Nat.beq j i||D.contains j||(qkq ab j).testBit i||match A[j]? with
   |some oj=>oi.apart A oj&&(J j||grB P oj.op)
   |none=>true
def zdp(P:Program)[Tys P](A:Array Oper)(ab:List Nat)(J:Nat->Bool)(D:List Nat)(i:Nat):Bool:=
 Nat.blt i A.size&&!D.contains i&&((qd4 A i).all fun x=>D.contains x)&&(D.all fun k=>(qd4 A k).all fun e=>D.contains e)&&Region.noSelect A&&rdB P (qda A i).op&&zck P A ab J D i
theorem qor{A:Array Oper}{D:List Nat}{i:Nat}(hlt:i<A.size)(hiD:i∉D)(hDn:D.Nodup)(hDlt:∀k∈D,k<A.size):(D++[i]).Nodup/\(∀k∈D++[i],k<A.size)/\D.length+1<=A.size:=by
 refine⟨zhq.2 ⟨hDn,by simp,fun x hx y hy exy=>?_⟩,fun k hk=>?_,?_⟩
 ·have:y=i:=by simpa using hy
  exact hiD (this▸exy▸hx)
 ·rcases zhj.1 hk with h|h
  ·exact hDlt k h
  ·have:k=i:=by simpa using h
   exact this▸hlt
 ·have:=qg5 A.size (i::D) (zhu.2 ⟨hiD,hDn⟩) (fun k hk=>by
   rcases zhr.1 hk with h|h
   ·exact h▸hlt
   ·exact hDlt k h)
  simpa using this
theorem qe8.ahead[T:Tys P]{A:Array Oper}{J:Nat->Bool}{D:List Nat}{ab:List Nat}(hab:quk A ab)(i:Nat)(hc:zdp P A ab J D i=true)(h:QS P (qe8 P A J (D++[i]) Q) [qda A i] st):qe8 P A J D Q st:=by
 simp only[zdp,zgz,zhm,zhn]at hc;obtain⟨⟨⟨⟨⟨⟨c1,c2⟩,c3⟩,c4⟩,c5⟩,c6⟩,c7⟩:=hc;have hlt:i<A.size:=zg4 c1;have hiD:i∉D:=fun hm=>by rw[zhh.2 hm]at c2;cases c2
 have hAi:A[i]?=some (A.getD i default):=by simp[Array.getD,hlt]
 cases h with
 |cons u hq k=>
 cases k with
 |nil k=>
 refine⟨fun E M F a w fuel listed r hs hl hDn hDlt hfuel=>?_⟩;have hh:qhu A listed D:=⟨hs,hl⟩
 obtain⟨n1,n2,n3⟩:=qor hlt hiD hDn hDlt;have hrdy:i∈Region.ready .any A listed:=hh.qlm hlt hiD (fun x hx=>⟨zhh.1 (c3 x hx),hDlt x (zhh.1 (c3 x hx))⟩);obtain⟨fuel,rfl⟩:∃f,fuel=f+1:=⟨fuel-1,by omega⟩
 obtain⟨hval,hrd⟩:=zbv (o:=A.getD i default) c6;have ho:∀ρ,execOp ρ (qda A i).oper=execOp ρ (A.getD i default):=fun ρ=>qv3 ρ _ _;obtain⟨v,F',hr,hrun⟩:=qz0 hq (fun ρ w n w' e=>hval ρ w n w' (by rw[<- ho];exact e)) (by rw[ho];exact hrd _) r
 have hset:=hh.set i;have h1:=k.out E M F' _ w fuel _ hr hset.1 hset.2 n1 n2 (by simp;omega)
 refine qo9 (R:=Grown) Grown.refl (fun a b c=>Grown.trans) (fun _ _ g=>g) hab hAi (Region.noSelect_spec c5) fuel D listed a w hh (fun k hk e he=>zhh.1 (c4 k hk e he)) hiD ?_ hrdy ?_ h1
 ·intro j oj hj hji hjD _ hanc;have hjlt:j<A.size:=(zic.1 hj).1;simp only[zck,hAi,zhm,zif,zh0]at c7;rcases c7 j hjlt with((h|h)|h)|h
  ·exact absurd (zg2 h) hji
  ·exact absurd (zhh.1 h) hjD
  ·rw[h]at hanc;cases hanc
  ·rw[hj]at h;simp only[zgz,zh0]at h;exact⟨h.1,.inr (h.2.imp id zch)⟩
 ·have hw:(qda A i).wanted a.tmps=Region.wanted (A.getD i default) (yielded A a.tmps):=qet A _ _;rw[hw,ho]at hrun;exact hrun.imp (fun⟨x1,x2⟩=>⟨x1,(hrd _ _ _ _ x2).2⟩) id
theorem qe8.zc4[T:Tys P]{A:Array Oper}{J:Nat->Bool}{D:List Nat}(i:Nat)(nt:Operand->Bool)(hn:∀x,nt x=true->∃k n,st.eval x=.t (.int k n))(hcn:cnB P nt (qda A i).op=true)(hc:zdq A D i=true)(h:QS P (qe8 P A J (D++[i]) Q) [qda A i] st):qe8 P A J D Q st:=by
 simp only[zdq,zgz,zhm,zhn]at hc;obtain⟨⟨⟨⟨⟨c1,c2⟩,c3⟩,c4⟩,c5⟩,c6⟩:=hc;have hlt:i<A.size:=zg4 c1;have hiD:i∉D:=fun hm=>by rw[zhh.2 hm]at c2;cases c2
 have hAi:A[i]?=some (A.getD i default):=by simp[Array.getD,hlt]
 cases h with
 |cons u hq k=>
 cases k with
 |nil k=>
 refine⟨fun E M F a w fuel listed r hs hl hDn hDlt hfuel=>?_⟩;have hh:qhu A listed D:=⟨hs,hl⟩
 obtain⟨n1,n2,n3⟩:=qor hlt hiD hDn hDlt;have hrdy:i∈Region.ready .any A listed:=hh.qlm hlt hiD (fun x hx=>⟨zhh.1 (c3 x hx),hDlt x (zhh.1 (c3 x hx))⟩);obtain⟨fuel,rfl⟩:∃f,fuel=f+1:=⟨fuel-1,by omega⟩
 obtain⟨hval,hcn⟩:=zcz (o:=A.getD i default) (ρ:=a.eval) (fun x hx=>by
  obtain⟨k,n,e⟩:=hn x hx;exact⟨k,n,qb5 r e⟩) hcn
 have ho:∀ρ,execOp ρ (qda A i).oper=execOp ρ (A.getD i default):=fun ρ=>qv3 ρ _ _;obtain⟨v,F',hr,hrun⟩:=qz0 hq (fun ρ w n w' e=>hval ρ w n w' (by rw[<- ho];exact e)) (by rw[ho];exact hcn.rd) r
 have hset:=hh.set i;have h1:=k.out E M F' _ w fuel _ hr hset.1 hset.2 n1 n2 (by simp;omega)
 have hw:(qda A i).wanted a.tmps=Region.wanted (A.getD i default) (yielded A a.tmps):=qet A _ _;rw[hw,ho]at hrun;refine qo9 (R:=fun _ _=>True) (fun _=>trivial) (fun _ _ _ _ _=>trivial) (fun _ _ _=>trivial) (quk.bef A) hAi (Region.noSelect_spec c4) fuel D listed a w hh (fun k hk e he=>zhh.1 (c6 k hk e he)) hiD ?_ hrdy (hrun.imp (fun⟨x1,x2⟩=>⟨x1,fun w2 _=>(hcn _ _ _ x2).2 w2⟩) id) h1;intro j oj hj hji hjD hno hanc;refine⟨?_,.inl fun _ _=>trivial⟩;have hjlt:j<A.size:=(zic.1 hj).1;simp only[zcl,hAi,zhm,zif,zh0]at c5;rcases c5 j hjlt with(h|h)|h
 ·exact absurd (zg2 h) hji
 ·exact absurd (zhh.1 h) hjD
 ·rw[hj]at h;simp only[zh0]at h;exact h.resolve_left fun h=>hno (zhh.1 h)
end Go.Abs
namespace Go.Abs
open Go
noncomputable section
variable {P:Program} {d:Option Tmp} {ty:TypeId} {L:List GOp} {ρ:Type}
theorem qz8{E:Env}{Q Q':Exit->St->Prop}{o:Oper}{a:Act}{w:World}{K K':Act->World->Prop}(h:∀a w,K a w->K' a w)(hk:o.wp P a w K (qjj E Q)):o.wp P a w K' (qjj E Q'):=by
 unfold Oper.wp at hk ⊢;generalize (execOp a.eval o).run P w=res at hk ⊢;cases res with
 |ok n w'=>
  cases n<;>simp only[Oper.upon]at hk⊢<;> first
   |exact h _ _ hk
   |exact Calls.mono hk (fun e w'' he=>by cases e<;>first|exact h _ _ he|exact he.elim|(obtain⟨a,w,he⟩:=he;exact he.elim))
   |exact Rows.mono hk (fun _ _ he=>h _ _ he)
 |halt x w'=>cases x<;>simp only[Oper.upon]at hk⊢<;> exact hk
theorem qk9{E:Env}{Q Q':Exit->St->Prop}(hq:∀e st,Q e st->Q' e st):∀(L:List GOp) (a:Act) (w:World),lwp P L (qjj E Q) a w->lwp P L (qjj E Q') a w
 |[],a,w,h=>by
  obtain⟨M,F,st,r,k⟩:=h;exact⟨M,F,st,r,hq _ _ k⟩
 |g::L,a,w,h=>by
  simp only[lwp]at h ⊢;split
  ·rename_i hw;rw[if_pos hw]at h;exact qz8 (qk9 hq L) h
  ·rename_i hw;rw[if_neg hw]at h;exact qk9 hq L _ _ h
section
variable [SU] [qa2] [qxv] [FFs] {Q:Exit->ESt->Prop}
def ESt.only(s:ESt)(xs:List Tmp):ESt:={ s with env:=fun t=>bif q2o xs t then s.env t else .un }
theorem qll(s:ESt)(xs:List Tmp):qbc (s.only xs)=(qbc s).only xs:=by
 simp only[qbc,ESt.only,St.only];congr 1;funext t;cases q2o xs t<;>simp[toV]
def q11(s so:ESt)(f:FuncId)(us:List EV)(d:Option Tmp)(K:ESt->Option ρ):List (Ctr P)->Option ρ
 |[]=>none
 | c::T=>bif Nat.beq c.f f&&c.quiet then(match qtw c so us with
  |some z=>qak (c.F z.x z.y) fun res=>K (s.put d (mkE c.rv res.1))
  | none=>q11 s so f us d K T)else q11 s so f us d K T
def q0m(s so:ESt)(f:FuncId)(bs:List EV)(d:Option Tmp)(K:ESt->Option ρ):List (Ctr P)->Option ρ
 |[]=>none
 | c::T=>bif Nat.beq c.f f&&(c.quiet&&qnr c.rv)then(match qtw c (noS bs) bs with
  |some z=>qak (c.F z.x z.y) fun res=>K (s.put d (mkE c.rv res.1))
  | none=>q0m s so f bs d K T)else q0m s so f bs d K T
def zcn(so:ESt)(f:FuncId)(us:List EV):List (Ctr P)->Bool
 |[]=>false
 |c::T=>(Nat.beq c.f f&&(c.quiet&&(qtw c so us).isSome))||zcn so f us T
def qzg(wr:Opt)(T:List (Ctr P))[Tys P][TyX P](s:ESt)(d:Option Tmp)(op:Op)(K:ESt->Option ρ):Option ρ:=
 bif qmn op then q35 P wr.wr (s.only (rds op)).eval s.heap op (fun u=>K (s.put d u))else
 match op with
 |.call c=>match c.callee with
  |.value (.func f)=>qki (s.only (rds op)) c.args.toList fun us=>match zcn (s.only (rds op)) f us T with
   |true=>q11 s (s.only (rds op)) f us d K T
   |false=>qje (s.only (rds op)).heap us fun bs=>q0m s (s.only (rds op)) f bs d K T
  |_=>none
 |_=>none
variable {K0:ESt->Prop}
theorem qqm{s:ESt}{f:FuncId}{args:Array Operand}{ats:Array TypeId}{K:ESt->Option ρ}{res:ρ}(hK:∀s',K s'=some res->QST P K0 L s'):∀ {T:List (Ctr P)},
  q11 s (s.only (rds (.call { callee:=.value (.func f),args:=args,argTypes:=ats }))) f (args.toList.map (s.only (rds (.call { callee:=.value (.func f),args:=args,argTypes:=ats }))).eval) d K T=some res ->
  QST P K0 (⟨d,.call { callee:=.value (.func f),args:=args,argTypes:=ats },ty,none⟩::L) s
 |[],h=>by cases h
 |c::T,h=>by
  unfold q11 at h;cases hb:Nat.beq c.f f&&c.quiet with
  |false=>rw[hb]at h;exact qqm hK (T:=T) h
  |true=>
   rw[hb]at h;simp only[zgz]at hb;obtain⟨hb,hq⟩:=hb;obtain rfl:=zg2 hb;simp only[cond_true]at h;split at h
   ·rename_i z hz;have hh:=qb9 h;clear h;obtain⟨y,hF,h⟩:=hh;have:=c.q96;have q:=qjt hq (qij (d:=d) (ty:=ty) (ats:=ats)) hz hF;rw[qll]at q;refine⟨QS.q q ?_⟩;have:=(hK _ h).out;rwa [qaw]at this
   ·exact qqm hK (T:=T) h
theorem qp4{s:ESt}{f:FuncId}{args:Array Operand}{ats:Array TypeId}{K:ESt->Option ρ}{res:ρ}(hK:∀s',K s'=some res->QST P K0 L s'):∀ {T:List (Ctr P)},
  q0m s (s.only (rds (.call { callee:=.value (.func f),args:=args,argTypes:=ats }))) f (borrows (s.only (rds (.call { callee:=.value (.func f),args:=args,argTypes:=ats }))).heap (args.toList.map (s.only (rds (.call { callee:=.value (.func f),args:=args,argTypes:=ats }))).eval)) d K T=some res ->
  QST P K0 (⟨d,.call { callee:=.value (.func f),args:=args,argTypes:=ats },ty,none⟩::L) s
 |[],h=>by cases h
 |c::T,h=>by
  unfold q0m at h;cases hb:Nat.beq c.f f&&(c.quiet&&qnr c.rv)with
  |false=>rw[hb]at h;exact qp4 hK (T:=T) h
  |true=>
   rw[hb]at h;simp only[zgz]at hb;obtain⟨hb,hq,hs⟩:=hb;obtain rfl:=zg2 hb;simp only[cond_true]at h;split at h
   ·rename_i z hz;have hh:=qb9 h;clear h;obtain⟨y,hF,h⟩:=hh;have q:=qmg (d:=d) (ty:=ty) (ats:=ats) hq hs hz hF;rw[qll]at q;refine⟨QS.q q ?_⟩;have:=(hK _ h).out;rwa [qaw]at this
   ·exact qp4 hK (T:=T) h
theorem qpm{wr:Opt}{T:List (Ctr P)}[Tys P][TyX P]{s:ESt}{op:Op}{K:ESt->Option ρ}{res:ρ}(hK:∀s',K s'=some res->QST P K0 L s')(h:qzg wr T s d op K=some res):QST P K0 (⟨d,op,ty,none⟩::L) s:=by
 unfold qzg at h;cases hp:qmn op with
 |true=>
  rw[hp]at h;simp only[cond_true]at h;obtain⟨u,h1,h2⟩:=quz (s:=s.only (rds op)) h;refine⟨QS.o (u:=toV s.heap.len u) (by rw[<- qll];exact h1 d ty) ?_⟩
  have:=(hK _ h2).out;rwa [qaw]at this
 |false=>
  rw[hp]at h;simp only[cond_false]at h;split at h
  ·rename_i c;obtain⟨callee,args,ats⟩:=c;split at h
   ·rename_i f hc;simp only at hc;subst hc;rw[qf3]at h;split at h
    ·exact qqm hK h
    ·exact qp4 hK (qfh h)
   ·cases h
  ·cases h
def qxw(wr:Opt)(T:List (Ctr P))[Tys P][TyX P](K:ESt->Option ρ):List GOp->ESt->Option ρ
 |[],s=>K s
 |⟨d,op,ty,none⟩::L,s=>qzg wr T s d op (qxw wr T K L)
 |⟨d,op,ty,some (some t,w)⟩::L,s=>match s.env t with
  |.und=>qxw wr T K L (s.put d .und)
  |.b b=>bif Nat.blt t s.nt then
    (bif w then(bif b then qzg wr T (s.put (some t) (.b true)) d op (qxw wr T K L)else qxw wr T K L ((s.put (some t) (.b false)).put d .und))
      else(bif b then qxw wr T K L ((s.put (some t) (.b true)).put d .und)else qzg wr T (s.put (some t) (.b false)) d op (qxw wr T K L)))else none
  |_=>none
 |⟨_,_,_,some (none,_)⟩::_,_=>none
theorem qfl{wr:Opt}{T:List (Ctr P)}[Tys P][TyX P]{K:ESt->Option ρ}{res:ρ}(hK:∀s',K s'=some res->K0 s'):∀(L:List GOp) (s:ESt),qxw wr T K L s=some res->QST P K0 L s
 |[],s,h=>⟨QS.nil ⟨s,rfl,hK _ h⟩⟩
 |⟨d,op,ty,none⟩::L,s,h=>qpm (qfl hK L) h
 |⟨d,op,ty,some (some t,w)⟩::L,s,h=>by
  unfold qxw at h;split at h
  ·rename_i hu;have hu:=zct hu;simp only[toV]at hu;refine⟨QS.gu hu ?_⟩;have:=(qfl hK L _ h).out;rwa [qaw]at this
  ·rename_i b hb;have hb:=zct hb;simp only[toV]at hb;have hh:=qaf h;clear h;obtain⟨hlt,h⟩:=hh;have hlt':Nat.blt t (qbc s).nt=true:=hlt;cases w with
   |true=>
    simp only[cond_true]at h;obtain⟨h1,h2⟩:=zc3 h;refine⟨QS.qq7 (w:=true) rfl hb hlt' (fun e=>?_) (fun e=>?_)⟩
    ·have:=(qpm (ty:=ty) (qfl hK L) (h1 e)).out;rw[qaw]at this;exact QS.gy (by rw[qcz,hlt'];rfl) hlt' this
    ·have:=(qfl hK L _ (h2 e)).out;rw[qaw,qaw]at this;exact QS.gn (by rw[qcz,hlt'];rfl) hlt' this
   |false=>
    simp only[cond_false]at h;obtain⟨h1,h2⟩:=zc3 h;refine⟨QS.qq7 (w:=false) rfl hb hlt' (fun e=>?_) (fun e=>?_)⟩
    ·have:=(qfl hK L _ (h1 e)).out;rw[qaw,qaw]at this;exact QS.gn (by rw[qcz,hlt'];rfl) hlt' this
    ·have:=(qpm (ty:=ty) (qfl hK L) (h2 e)).out;rw[qaw]at this;exact QS.gy (by rw[qcz,hlt'];rfl) hlt' this
  ·cases h
 |⟨_,_,_,some (none,_)⟩::_,_,h=>by cases h
def qzz(f:FuncId):List (Ctr P)->Bool
 |[]=>false
 |c::T=>(Nat.beq c.f f&&c.quiet)||qzz f T
def qzy(T:List (Ctr P))(op:Op):Bool:=qmn op||(match op with
 |.call c=>match c.callee with
  |.value (.func f)=>qzz f T
  |_=>false
 | _=>false)
def qod(T:List (Ctr P)):List Oper->Nat->List (Nat×Bool)
 |[],0=>[]
 |[],n=>[(n,true)]
 |o::l,n=>bif qzy T o.op then qod T l (n+1)else(bif Nat.beq n 0 then(1,false)::qod T l 0 else(n,true)::(1,false)::qod T l 0)
def ql4(A:Array Oper):Nat->List (Nat×Bool)->Bool
 |k,[]=>q2j A.size (List.range k)
 |k,(n,true)::l=>chk A (q5i A) (List.range k) ((List.range n).map (k+·))&&ql4 A (k+n) l
 |k,(_,false)::l=>zc0 A (q5i A) (List.range k) k&&ql4 A (k+1) l
theorem QS.mono{K K':St->Prop}(hk:∀st,K st->K' st):∀ {L:List GOp} {st:St},QS P K L st->QS P K' L st:=fun h=>by
 induction h with
 |nil h=>exact .nil (hk _ h)
 |cons u h k ih=>exact .cons u h ih
def qjr(wr:Opt)(T:List (Ctr P))[Tys P][TyE P][TyX P](A:Array Oper)(K:ESt->Option ρ):List (Nat×Bool)->Nat->ESt->Option ρ
 |[],k,s=>K s
 |(n,true)::l,k,s=>qxw wr T (qjr wr T A K l (k+n)) (((List.range n).map (k+·)).map (qda A)) s
 |(_,false)::l,k,s=>qzj wr T (qjr wr T A K l (k+1)) [qda A k] s
theorem qjq{wr:Opt}{T:List (Ctr P)}[Tys P][TyE P][TyX P]{A:Array Oper}{K:ESt->Option ρ}{res:ρ}(hK:∀s',K s'=some res->Q .normal s'):∀(l:List (Nat×Bool)) (k:Nat) (s:ESt),ql4 A k l=true->qjr wr T A K l k s=some res ->
  qe8 P A (fun _=>false) (List.range k) (qe9 Q) (qbc s)
 |[],k,s,hc,h=>qe8.done hc ⟨s,rfl,hK _ h⟩
 |(n,true)::l,k,s,hc,h=>by
  simp only[ql4,zgz]at hc;refine qe8.quiet (quk.bef A) _ hc.1 (QS.mono ?_ (qfl (K0:=fun s=>qjr wr T A K l (k+n) s=some res) (fun s' h=>h) _ _ h).out)
  rintro st ⟨s',rfl,h'⟩
  have:=qjq hK l (k+n) s' hc.2 h';rwa [List.range_add]at this
 |(_,false)::l,k,s,hc,h=>by
  simp only[ql4,zgz]at hc;have hs:=(qgc (Q:=fun e s=>match e with | .normal=>qjr wr T A K l (k+1) s=some res|_=>False) (fun s' h=>h) _ _ h).out;refine qe8.step (quk.bef A) k hc.1 (.inl ⟨rfl,⟨fun E M F a w r=>?_⟩⟩);have:=hs.out E M F a w r;refine qk9 ?_ _ _ _ this
  rintro e st ⟨s',rfl,h'⟩
  cases e<;>first|exact h'.elim|skip
  have:=qjq hK l (k+1) s' hc.2 h';rwa [List.range_succ]at this
def brO{ρ:Type}(x y:Option ρ):Option ρ:=@ite _ (x=y) (Classical.propDecidable _) x none
theorem q89{ρ:Type}{x y:Option ρ}{r:ρ}(h:brO x y=some r):x=some r/\y=some r:=by
 unfold brO at h;split at h
 ·rename_i e;exact⟨h,e▸h⟩
 ·cases h
@[simp] theorem qjd{ρ:Type}(x:Option ρ):brO x x=x:=by unfold brO;rw[if_pos rfl]
def isI:EV->Bool
 |.i _ _=>true
 |_=>false
def qks(T:List (Ctr P))(A:Array Oper)(i:Nat):Bool:=match(qda A i).g with
 |none=>zcc T (qda A i).op
 |some _=>false
def zgs:Operand->Bool
 |.tmp _=>true
 |.const (.int _ _)=>true
 |_=>false
def q60(P:Program)[Tys P](A:Array Oper)(ab:List Nat)(J:Nat->Bool)(D:List Nat):List Nat->Nat×Nat
 |[]=>(0,0)
 |i::l=>bif cnB P zgs (qda A i).op&&zdq A D i then(1,i)else(bif zdp P A ab J D i then(2,i)else q60 P A ab J D l)
def qer(T:List (Ctr P))(A:Array Oper):List Nat->List Nat
 |[]=>[]
 |i::l=>bif qzy T (qda A i).op then i::qer T A l else []
def zgt:List Nat->Bool
 |[]=>true
 |_=>false
def qw2(T:List (Ctr P))[Tys P](A:Array Oper)(ab:List Nat):Nat->List Nat->List Nat->Pn
 |0,_,_=>.no
 |n+1,D,l=>match l with
  |[]=>.nil
  |i::m=>bif !(zgt (qer T A l))&&chk A ab D (qer T A l)then .qu (qer T A l) (qw2 T A ab n (D++qer T A l) (l.drop (qer T A l).length))
   else(bif zc0 A ab D i then .on i (qw2 T A ab n (D++[i]) m)else(match q60 P A ab (qks T A) D l with
    |(1,j)=>.fl j (qw2 T A ab n (D++[j]) (l.filter fun k=>!Nat.beq k j))
    |(2,j)=>.rd j (qw2 T A ab n (D++[j]) (l.filter fun k=>!Nat.beq k j))
    | _=>bif Nat.ble l.length 12 then(q38 A D).foldr (fun j q=>.br j (qw2 T A ab n (D++[j]) (l.filter fun k=>!Nat.beq k j)) q) .no else .no))
def qxt:Pn->List Nat
 |.br i _ q=>i::qxt q
 |_=>[]
def qck(P:Program)[Tys P](T:List (Ctr P))(A:Array Oper)(ab:List Nat):Pn->Bool->List Nat->Bool
 |.nil,b,D=>!b&&q2j A.size D
 |.fl i p,b,D=>!b&&(zdq A D i&&qck P T A ab p false (D++[i]))
 |.rd i p,b,D=>!b&&(zdp P A ab (qks T A) D i&&qck P T A ab p false (D++[i]))
 |.qu X p,b,D=>!b&&(chk A ab D X&&qck P T A ab p false (D++X))
 |.on i p,b,D=>!b&&(zc0 A ab D i&&qck P T A ab p false (D++[i]))
 |.br i p q,b,D=>(b||q0r (i::qxt q) (q38 A D))&&(qck P T A ab p false (D++[i])&&qck P T A ab q true D)
 |.no,b,_=>b
def qn8(wr:Opt)(T:List (Ctr P))[Tys P][TyE P][TyX P](A:Array Oper)(i:Nat)(K:ESt->Option ρ)(s:ESt):Option ρ:=
 bif qks T A i then zel T K (qda A i) s else qzj wr T K [qda A i] s
def qb4(wr:Opt)(T:List (Ctr P))[Tys P][TyE P][TyX P](A:Array Oper)(K:ESt->Option ρ):Pn->ESt->Option ρ
 |.nil,s=>K s
 |.fl i p,s=>bif cnB P (fun x=>isI (s.eval x)) (qda A i).op then qxw wr T (qb4 wr T A K p) [qda A i] s else none
 |.rd i p,s=>qxw wr T (qb4 wr T A K p) [qda A i] s
 |.qu X p,s=>qxw wr T (qb4 wr T A K p) (X.map (qda A)) s
 |.on i p,s=>qn8 wr T A i (qb4 wr T A K p) s
 |.br i p .no,s=>qn8 wr T A i (qb4 wr T A K p) s
 |.br i p q,s=>brO (qn8 wr T A i (qb4 wr T A K p) s) (qb4 wr T A K q s)
 |.no,_=>none
theorem qlz{wr:Opt}{T:List (Ctr P)}[Tys P][TyE P][TyX P]{A:Array Oper}{i:Nat}{K:ESt->Option ρ}{s:ESt}{res:ρ}{K1:St->Prop}(h:qn8 wr T A i K s=some res)(hK:∀s',K s'=some res->K1 (qbc s')) :
  (qks T A i=false/\SL P [qda A i] (qg4 K1) (qbc s))\/SLG P (qda A i) K1 (qbc s):=by
 unfold qn8 at h;cases hg:qks T A i with
 |true=>
  rw[hg]at h;have h1:=(q7w (K1:=fun s=>K s=some res) (fun s' h=>h) h).out;refine .inr ⟨fun E M F a w r=>?_⟩;obtain⟨e,h2⟩:=h1.out E M F a w r;refine⟨e,Oper.wp_mono (fun a' w' ⟨g,ι',F',st',r',s',e1,hk⟩=>⟨g,ι',F',st',r',?_⟩) h2⟩;subst e1;exact hK s' hk
 |false=>
  rw[hg]at h;have hs:=(qgc (Q:=fun e s=>match e with | .normal=>K s=some res|_=>False) (fun s' h=>h) _ _ h).out;refine .inl ⟨rfl,⟨fun E M F a w r=>?_⟩⟩;have:=hs.out E M F a w r;refine qk9 ?_ _ _ _ this
  rintro e st ⟨s',rfl,h'⟩
  cases e<;>first|exact h'.elim|skip
  exact hK s' h'
theorem q8u{a b:List Nat}(h:q0r a b=true):a=b:=qhm.1 h
theorem qcv{wr:Opt}{T:List (Ctr P)}[Tys P][TyE P][TyX P]{A:Array Oper}{ab:List Nat}(hab:quk A ab){K:ESt->Option ρ}{res:ρ}(hK:∀s',K s'=some res->Q .normal s'):∀(p:Pn) (D:List Nat) (s:ESt),
  (qck P T A ab p false D=true->qb4 wr T A K p s=some res->qe8 P A (qks T A) D (qe9 Q) (qbc s)) /\
  (qck P T A ab p true D=true->p≠.no->qb4 wr T A K p s=some res->∀e∈qxt p,(qks T A e=false/\SL P [qda A e] (qg4 (qe8 P A (qks T A) (D++[e]) (qe9 Q))) (qbc s))\/SLG P (qda A e) (qe8 P A (qks T A) (D++[e]) (qe9 Q)) (qbc s))
 |.nil,D,s=>by
  refine⟨fun hc h=>?_,fun hc=>by cases hc⟩;simp only[qck,zgz]at hc;exact qe8.done hc.2 ⟨s,rfl,hK _ h⟩
 |.no,D,s=>⟨fun hc=>(by cases hc),fun _ h=>absurd rfl h⟩
 |.fl i p,D,s=>by
  refine⟨fun hc h=>?_,fun hc=>by simp[qck]at hc⟩;simp only[qck,zgz]at hc;unfold qb4 at h;have hh:=qaf h;clear h;obtain⟨hcn,h⟩:=hh;refine qe8.zc4 i (fun x=>isI (s.eval x)) (fun x hx=>?_) hcn hc.2.1 (QS.mono ?_ (qfl (K0:=fun s=>qb4 wr T A K p s=some res) (fun s' h=>h) _ _ h).out)
  ·cases he:s.eval x<;>rw[he]at hx<;>first|cases hx|skip
   rename_i k n;exact⟨k,n,eval_eq he rfl⟩
  ·rintro st ⟨s',rfl,h'⟩
   exact(qcv hab hK p (D++[i]) s').1 hc.2.2 h'
 |.rd i p,D,s=>by
  refine⟨fun hc h=>?_,fun hc=>by simp[qck]at hc⟩;simp only[qck,zgz]at hc;unfold qb4 at h;refine qe8.ahead hab i hc.2.1 (QS.mono ?_ (qfl (K0:=fun s=>qb4 wr T A K p s=some res) (fun s' h=>h) _ _ h).out)
  rintro st ⟨s',rfl,h'⟩
  exact(qcv hab hK p (D++[i]) s').1 hc.2.2 h'
 |.qu X p,D,s=>by
  refine⟨fun hc h=>?_,fun hc=>by simp[qck]at hc⟩;simp only[qck,zgz]at hc;unfold qb4 at h;refine qe8.quiet hab _ hc.2.1 (QS.mono ?_ (qfl (K0:=fun s=>qb4 wr T A K p s=some res) (fun s' h=>h) _ _ h).out)
  rintro st ⟨s',rfl,h'⟩
  exact(qcv hab hK p (D++X) s').1 hc.2.2 h'
 |.on i p,D,s=>by
  refine⟨fun hc h=>?_,fun hc=>by simp[qck]at hc⟩;simp only[qck,zgz]at hc;unfold qb4 at h;exact qe8.step hab i hc.2.1 (qlz h fun s' h'=>(qcv hab hK p (D++[i]) s').1 hc.2.2 h')
 |.br i p q,D,s=>by
  have key:∀b,qck P T A ab (.br i p q) b D=true->qb4 wr T A K (.br i p q) s=some res->∀e∈qxt (.br i p q),(qks T A e=false/\SL P [qda A e] (qg4 (qe8 P A (qks T A) (D++[e]) (qe9 Q))) (qbc s))\/SLG P (qda A e) (qe8 P A (qks T A) (D++[e]) (qe9 Q)) (qbc s):=by
   intro b hc h e he;simp only[qck,zgz]at hc;by_cases hq:q=.no
   ·subst hq;simp only[qxt,zhr,List.not_mem_nil,or_false]at he;subst he;exact qlz h fun s' h'=>(qcv hab hK p (D++[e]) s').1 hc.2.1 h'
   ·have h:brO (qn8 wr T A i (qb4 wr T A K p) s) (qb4 wr T A K q s)=some res:=by
     cases q<;>first|exact absurd rfl hq|exact h
    obtain⟨h1,h2⟩:=q89 h;simp only[qxt,zhr]at he;rcases he with rfl|he
    ·exact qlz h1 fun s' h'=>(qcv hab hK p (D++[e]) s').1 hc.2.1 h'
    ·exact(qcv hab hK q D s).2 hc.2.2 hq h2 e he
  refine⟨fun hc h=>?_,fun hc _ h=>key true hc h⟩;have hc':=hc;simp only[qck,Bool.false_or,zgz]at hc';have he:=q8u hc'.1;refine qe8.branch (by rw[<- he];rfl) fun e hm=>key false hc h e ?_
  rw[<- he]at hm;exact hm
def q6j(T:List (Ctr P))[Tys P](A:Array Oper)(ab:List Nat):Pn:=qw2 T A ab (A.size+1) [] (List.range A.size)
def zf4:Pn->Bool
 |.no=>true
 |_=>false
def qs9(wr:Opt)(T:List (Ctr P))[Tys P][TyE P][TyX P](A:Array Oper)(draw:Bool)(K:ESt->Option ρ)(s:ESt):Option ρ:=
 bif draw then(bif zf4 wr.pl then(bif ql4 A 0 (qod T A.toList 0)then qjr wr T A K (qod T A.toList 0) 0 s else
  (bif qck P T A (q5i A) (q6j T A (q5i A)) false []then qb4 wr T A K (q6j T A (q5i A)) s else none))
  else(bif zc5 A wr.ab&&qck P T A wr.ab wr.pl false []then qb4 wr T A K wr.pl s else none))else qzj wr T K (q91 A) s
theorem qwz{wr:Opt}{T:List (Ctr P)}[Tys P][TyE P][TyX P][m:qui P]{A:Array Oper}{draw:Bool}{K:ESt->Option ρ}{res:ρ}{id:Nat}{s:ESt}(hK:∀s',K s'=some res->Q .normal s')(h:qs9 wr T A draw K s=some res):SCT P (.region id A draw) Q s:=by
 unfold qs9 at h;cases draw with
 |true=>
  simp only[cond_true]at h;cases hno:zf4 wr.pl with
  |false=>
   rw[hno]at h;simp only[cond_false]at h;have hh:=qaf h;clear h;obtain⟨hc,h⟩:=hh;simp only[zgz]at hc;exact⟨SC.draw m.m ((qcv (quk.of hc.1) hK _ [] s).1 hc.2 h)⟩
  |true=>
  rw[hno]at h;simp only[cond_true]at h;cases hp:ql4 A 0 (qod T A.toList 0)with
  |true=>
   rw[hp]at h;exact⟨SC.draw m.m (qjq hK _ 0 s hp h)⟩
  |false=>
   rw[hp]at h;simp only[cond_false]at h;have hh:=qaf h;clear h;obtain⟨hc,h⟩:=hh;exact⟨SC.draw m.m ((qcv (quk.bef A) hK _ [] s).1 hc h)⟩
 |false=>exact⟨SC.region (qgc hK _ _ h).out⟩
def ESt.mdd(s:ESt)(l:List Nat):ESt:={ s with heap:={ s.heap with md:=l } }
theorem qb1.up{s:ESt}{k:Nat}{e:TypeId}{i j:Nat}{f:SU.D i->SU.D j}{l:List (SU.D i)}(ho:s.heap.obj k=.lst ⟨e,.st i,l⟩)(h:qa2.upF i j=some f):qb1 s (s.on (s.heap.set k (.lst ⟨e,.st j,l.map f⟩))):=by
 unfold qb1;rw[qpf ho h];exact qb1.refl s
def qyy(s:ESt)(K:ESt->Option ρ):List (Nat×Nat)->Option ρ
 |[]=>K s
 |(t,j)::l=>match s.env t with
  | .qa5 k []=>(match s.heap.obj k with
   | .lst ⟨e,.st i,x⟩=>(match qa2.upF i j with
    |some f=>qyy (s.on (s.heap.set k (.lst ⟨e,.st j,x.map f⟩))) K l
    | none=>(match qxv.dn i j with
     |some g=>qak (Sp.q6q g x) fun y=>qyy (s.on (s.heap.set k (.lst ⟨e,.st j,y⟩))) K l
     | none=>none))
   | _=>none)
  |_=>none
theorem qb1.dn{s:ESt}{k:Nat}{e:TypeId}{i j:Nat}{g:SU.D i->Option (SU.D j)}{l:List (SU.D i)}{m:List (SU.D j)}(ho:s.heap.obj k=.lst ⟨e,.st i,l⟩)(h:qxv.dn i j=some g)(hm:Sp.q6q g l=some m):qb1 s (s.on (s.heap.set k (.lst ⟨e,.st j,m⟩))):=by
 obtain⟨f,hf,hg⟩:=qxv.zcu i j g h;have e1:=q0h hg l m hm
 let s':ESt:=s.on (s.heap.set k (.lst ⟨e,.st j,m⟩))
 have ho':s'.heap.obj k=.lst ⟨e,.st j,m⟩:=by show(bif Nat.beq k k then _ else _)=_;rw[zhc];rfl
 have e2:=qpf ho' hf;have e3:s'.on (s'.heap.set k (.lst ⟨e,.st i,m.map f⟩))=s:=by
  rw[e1];obtain⟨nt,env,H⟩:=s;obtain⟨next,lo,md,obj⟩:=H;simp only[s',ESt.on,qad.set];congr 2;funext q;cases hq:Nat.beq q k with
  |true=>
   obtain rfl:=zg2 hq;exact ho.symm
  |false=>simp only[hq,cond_false]
 unfold qb1;rw[e3]at e2;rw[show qbc (s.on (s.heap.set k (.lst ⟨e,.st j,m⟩)))=qbc s from e2.symm];exact qb1.refl s
theorem qln{K:ESt->Option ρ}{res:ρ}:∀(l:List (Nat×Nat)) (s:ESt),qyy s K l=some res->∃s',qb1 s s'/\K s'=some res
 |[],s,h=>⟨s,qb1.refl s,h⟩
 |(t,j)::l,s,h=>by
  unfold qyy at h;split at h
  ·split at h
   ·rename_i ho;split at h
    ·rename_i f hf;obtain⟨s',w,h'⟩:=qln l _ h;exact⟨s',(qb1.up ho hf).trans w,h'⟩
    ·split at h
     ·rename_i g hg;obtain⟨y,hy,h⟩:=qb9 h;obtain⟨s',w,h'⟩:=qln l _ h;exact⟨s',(qb1.dn ho hg hy).trans w,h'⟩
     ·cases h
   ·cases h
  ·cases h
def qzf(wr:Opt)(T:List (Ctr P))[Tys P][TyE P][TyX P](A:Array Oper)(draw:Bool)(K:ESt->Option ρ)(s:ESt):Option ρ:=
 qyy (s.mdd wr.md) (qs9 wr T A draw K) wr.rt
theorem qze{wr:Opt}{T:List (Ctr P)}[Tys P][TyE P][TyX P][m:qui P]{A:Array Oper}{draw:Bool}{K:ESt->Option ρ}{res:ρ}{id:Nat}{s:ESt}(hK:∀s',K s'=some res->Q .normal s')(h:qzf wr T A draw K s=some res):SCT P (.region id A draw) Q s:=by
 obtain⟨s',w,h⟩:=qln _ _ h;have:=SCT.weak w (qwz (id:=id) hK h);exact⟨this.out⟩
end
end
end Go.Abs
namespace Go.Abs
open Go
noncomputable section
variable {P:Program}
section
variable {D X:Type}
def qi2(f:D->Option (D⊕X)):Nat->D->Option X
 |0,_=>none
 |n+1,y=>match f y with
  |some (.inl z)=>qi2 f n z
  |some (.inr x)=>some x
  |none=>none
theorem qp9{f:D->Option (D⊕X)}:∀ {n:Nat} {y:D} {x:X},qi2 f n y=some x->∀m,n<=m->qi2 f m y=some x
 |0,_,_,h,_,_=>by cases h
 |n+1,y,x,h,0,hm=>by omega
 |n+1,y,x,h,m+1,hm=>by
  simp only[qi2]at h ⊢;split at h
  ·exact qp9 h m (by omega)
  ·exact h
  ·cases h
open Classical in
noncomputable def qap(f:D->Option (D⊕X))(y:D):Option X:=if h:∃n x,qi2 f n y=some x then some (Classical.choose (Classical.choose_spec h))else none
theorem qjk{f:D->Option (D⊕X)}{y:D}{x:X}:qap f y=some x↔∃n,qi2 f n y=some x:=by
 unfold qap
 constructor
 ·intro h;split at h
  ·rename_i hh;injection h with h;subst h;exact⟨_,Classical.choose_spec (Classical.choose_spec hh)⟩
  ·cases h
 ·rintro⟨n,hn⟩
  have hh:∃n x,qi2 f n y=some x:=⟨n,x,hn⟩
  rw[dif_pos hh];have h2:=Classical.choose_spec (Classical.choose_spec hh);have a:=qp9 h2 (max n (Classical.choose hh)) (Nat.le_max_right _ _);have b:=qp9 hn (max n (Classical.choose hh)) (Nat.le_max_left _ _);rw[a]at b;exact b
theorem qa8(f:D->Option (D⊕X))(y:D):qap f y=match f y with
  |some (.inl z)=>qap f z
  |some (.inr x)=>some x
  |none=>none:=by
 have key:∀x,qap f y=some x↔(match f y with
  |some (.inl z)=>qap f z
  |some (.inr x)=>some x
  | none=>none)=some x:=by
  intro x;rw[qjk];cases hf:f y with
  |none=>
   simp only
   constructor
   ·rintro⟨n,hn⟩;cases n<;>simp[qi2,hf]at hn
   ·intro h;cases h
  |some v=>
   cases v with
   |inl z=>
    simp only;rw[qjk]
    constructor
    ·rintro⟨n,hn⟩
     cases n with
     |zero=>cases hn
     |succ n=>simp only[qi2,hf]at hn;exact⟨n,hn⟩
    ·rintro⟨n,hn⟩;exact⟨n+1,by simp only[qi2,hf];exact hn⟩
   |inr x'=>
    simp only
    constructor
    ·rintro⟨n,hn⟩
     cases n with
     |zero=>cases hn
     |succ n=>simp only[qi2,hf]at hn;exact hn
    ·intro h;exact⟨1,by simp only[qi2,hf];exact h⟩
 cases h1:qap f y with
 |some x=>exact((key x).1 h1).symm
 |none=>
  cases h2:(match f y with
  |some (.inl z)=>qap f z
  |some (.inr x)=>some x
  | none=>none)with
  |none=>rfl
  |some x=>rw[(key x).2 h2]at h1;cases h1
def qjo{ρ A B:Type}(f:A->Option ρ)(g:B->Option ρ)(x:A⊕B):Option ρ:=match x with
 |.inl a=>f a
 |.inr b=>g b
def jpO{ρ:Type}(f:D->Option ρ)(g:(D->Option ρ)->Option ρ):Option ρ:=g f
end
inductive Ek where
 |ret
 |exit (n:Nat)
def Ek.ex:Ek->Exit
 |.ret=>.ret
 |.exit n=>.exit n
def Ek.is:Ek->Exit->Bool
 |.ret,.ret=>true
 |.exit n,.exit m=>Nat.beq n m
 |_,_=>false
theorem Ek.qoq{k:Ek}{e:Exit}(h:k.is e=true):e=k.ex:=by
 cases k<;>cases e<;>first|rfl|(cases h;done)|(obtain rfl:=zg2 h;rfl)
inductive Ann where
 |o
 |w
 |x (o:Opt)
 |seq (a b:Ann)
 |join (sh:SSh) (a b:Ann)
 |cond (a b:Ann)
 |block (a:Ann)
 |loop (sh:SSh) (ex:List (Ek×SSh)) (a:Ann)
def Ann.wr:Ann->Opt
 |.w=>{ wr:=true }
 |.x q=>q
 |_=>{}
section
variable [SU] [qa2] [qxv] [FFs]
@[reducible] def SSh.D (sh:SSh):Type:=DT sh.sl×DO sh.os
@[reducible] def ExD:List (Ek×SSh)->Type
 |[]=>Empty
 |[a]=>a.2.D
 |a::b::l=>a.2.D⊕ExD (b::l)
variable {ρ:Type}
def up1(s:ESt):OSh->Option Nat->ESt
 | .lst _ (.st j),some k=>(match s.heap.obj k with
  | .lst ⟨e,.st i,l⟩=>(match qa2.upF i j with
   |some f=>s.on (s.heap.set k (.lst ⟨e,.st j,l.map f⟩))
   | none=>s)
  | _=>s)
 |_,_=>s
def upS:List OSh->List (Option Nat)->ESt->ESt
 |[],_,s=>s
 |_::_,[],s=>s
 |o::os,k::ks,s=>upS os ks (up1 s o k)
theorem zac(s:ESt)(o:OSh)(k:Option Nat):qbc (up1 s o k)=qbc s:=by
 unfold up1;split
 ·split
  ·rename_i ho;split
   ·rename_i f hf;exact qpf ho hf
   ·rfl
  ·rfl
 ·rfl
theorem q5r:∀(os:List OSh) (ks:List (Option Nat)) (s:ESt),qbc (upS os ks s)=qbc s
 |[],_,_=>rfl
 |_::_,[],_=>rfl
 |o::os,k::ks,s=>(q5r os ks (up1 s o k)).trans (zac s o k)
def qnv(nt lo:Nat)(s:ESt)(sh:SSh)(K:sh.D->Option ρ):Option ρ:=bif Nat.beq s.nt nt&&Nat.beq s.heap.lo lo then(match exS (upS sh.os (q0s s sh) s) (q0s s sh) sh with
 |some z=>K z
 | none=>none)else none
theorem qez{nt lo:Nat}{s:ESt}{sh:SSh}{K:sh.D->Option ρ}{r:ρ}(h:qnv nt lo s sh K=some r):∃z,qb1 s (mkS nt lo sh z.1 z.2)/\K z=some r:=by
 unfold qnv at h;have hh:=qaf h;clear h;obtain⟨hb,h⟩:=hh;simp only[zgz]at hb;obtain rfl:=qbl hb.1;obtain rfl:=qbl hb.2;split at h
 ·rename_i z hz;have e:=q5r sh.os (q0s s sh) s;have e1:(upS sh.os (q0s s sh) s).nt=s.nt:=congrArg St.nt e;have e2:(upS sh.os (q0s s sh) s).heap.lo=s.heap.lo:=congrArg (fun x:St=>x.heap.lo) e;have w:=zcs hz;unfold qb1 at w ⊢;rw[e,e1,e2]at w;exact⟨z,w,h⟩
 ·cases h
def qty(nt lo:Nat)(s:ESt)(e:Exit):(l:List (Ek×SSh))->(ExD l->Option ρ)->Option ρ
 |[],_=>none
 |[a],K=>bif a.1.is e then qnv nt lo s a.2 K else none
 |a::b::l,K=>bif a.1.is e then qnv nt lo s a.2 (fun z=>K (.inl z))else qty nt lo s e (b::l) (fun z=>K (.inr z))
def qu8(nt lo:Nat)(k:Exit->ESt->Option ρ):(l:List (Ek×SSh))->ExD l->Option ρ
 |[],_=>none
 |[a],z=>k a.1.ex (mkS nt lo a.2 z.1 z.2)
 |a::b::l,z=>qjo (fun z=>k a.1.ex (mkS nt lo a.2 z.1 z.2)) (fun z=>qu8 nt lo k (b::l) z) z
theorem qm3{nt lo:Nat}{s:ESt}{e:Exit}{k:Exit->ESt->Option ρ}:∀ {l:List (Ek×SSh)} {σ:Type} {K:ExD l->Option σ} {x:σ},qty nt lo s e l K=some x->∃z,K z=some x/\∃s',qb1 s s'/\∀r,qu8 nt lo k l z=some r->k e s'=some r
 |[],_,_,_,h=>by cases h
 |[a],σ,K,x,h=>by
  unfold qty at h;have hh:=qaf h;clear h;obtain⟨hb,h⟩:=hh;obtain⟨z,w,h⟩:=qez h;exact⟨z,h,_,w,fun r hr=>by rw[Ek.qoq hb];exact hr⟩
 |a::b::l,σ,K,x,h=>by
  unfold qty at h;cases hb:a.1.is e with
  |true=>
   rw[hb]at h;obtain⟨z,w,h⟩:=qez h;exact⟨.inl z,h,_,w,fun r hr=>by rw[Ek.qoq hb];exact hr⟩
  |false=>
   rw[hb]at h;obtain⟨z,h1,s',w,h2⟩:=qm3 (l:=b::l) h;exact⟨.inr z,h1,s',w,h2⟩
def qwr(K:ESt->Option ρ)(k:Exit->ESt->Option ρ):Exit->ESt->Option ρ
 |.normal,s=>K s
 |e,s=>k e s
def inK(id:Nat)(k:Exit->ESt->Option ρ):Exit->ESt->Option ρ
 |.exit id',s=>bif Nat.beq id' id then k .normal s else k (.exit id') s
 |e,s=>k e s
def qzq(nt lo:Nat)(sh:SSh)(ex:List (Ek×SSh)):Exit->ESt->Option (sh.D⊕ExD ex)
 |.normal,s=>qnv nt lo s sh (fun z=>some (.inl z))
 |e,s=>qty nt lo s e ex (fun z=>some (.inr z))
noncomputable def qh5(T:List (Ctr P))[Tys P][TyE P][TyX P](nt lo:Nat):Ann->Code->{ρ:Type}->(Exit->ESt->Option ρ)->ESt->Option ρ
 |_,.skip,_,k,s=>k .normal s
 |_,.exit id,_,k,s=>k (.exit id) s
 |_,.ret,_,k,s=>k .ret s
 |a,.region _ A draw,_,k,s=>qzf a.wr T A draw (k .normal) s
 |.seq a b,.seq x y,_,k,s=>qh5 T nt lo a x (qwr (qh5 T nt lo b y k) k) s
 |.o,.seq x y,_,k,s=>qh5 T nt lo .o x (qwr (qh5 T nt lo .o y k) k) s
 |.join sh a b,.seq x y,_,k,s=>jpO (fun z:sh.D=>qh5 T nt lo b y k (mkS nt lo sh z.1 z.2)) fun j=>qh5 T nt lo a x (qwr (fun s'=>qnv nt lo s' sh j) k) s
 |.cond a b,.cond (.tmp t) x y,_,k,s=>match s.env t with
  |.b c=>bif Nat.blt t s.nt then(bif c then qh5 T nt lo a x k (s.put (some t) (.b true))else qh5 T nt lo b y k (s.put (some t) (.b false)))else none
  |_=>none
 |.o,.cond (.tmp t) x y,_,k,s=>match s.env t with
  |.b c=>bif Nat.blt t s.nt then(bif c then qh5 T nt lo .o x k (s.put (some t) (.b true))else qh5 T nt lo .o y k (s.put (some t) (.b false)))else none
  |_=>none
 |.cond a b,.cond (.const (.bool c)) x y,_,k,s=>bif c then qh5 T nt lo a x k s else qh5 T nt lo b y k s
 |.o,.cond (.const (.bool c)) x y,_,k,s=>bif c then qh5 T nt lo .o x k s else qh5 T nt lo .o y k s
 |.block a,.block id x,_,k,s=>qh5 T nt lo a x (inK id k) s
 |.o,.block id x,_,k,s=>qh5 T nt lo .o x (inK id k) s
 |.loop sh ex a,.loop x,_,k,s=>qnv nt lo s sh fun y0=>
   qak (qap (fun y=>qh5 T nt lo a x (qzq nt lo sh ex) (mkS nt lo sh y.1 y.2)) y0) fun z=>qu8 nt lo k ex z
 |_,_,_,_,_=>none
def Down(Q:Exit->ESt->Prop):Prop:=∀e s s',qb1 s s'->Q e s'->Q e s
theorem qec(T:List (Ctr P))[Tys P][TyE P][TyX P][qui P](nt lo:Nat):∀(c:Code) (a:Ann) {ρ:Type} (k:Exit->ESt->Option ρ) (s:ESt) (res:ρ) (Q:Exit->ESt->Prop),Down Q->(∀e s',k e s'=some res->Q e s')->qh5 T nt lo a c k s=some res->SCT P c Q s
 |.skip,a,ρ,k,s,res,Q,hQ,hk,h=>by
  have h:k .normal s=some res:=by cases a<;>exact h
  exact⟨SC.skip ⟨s,rfl,hk _ _ h⟩⟩
 |.exit id,a,ρ,k,s,res,Q,hQ,hk,h=>by
  have h:k (.exit id) s=some res:=by cases a<;>exact h
  exact⟨SC.exit ⟨s,rfl,hk _ _ h⟩⟩
 |.ret,a,ρ,k,s,res,Q,hQ,hk,h=>by
  have h:k .ret s=some res:=by cases a<;>exact h
  exact⟨SC.ret ⟨s,rfl,hk _ _ h⟩⟩
 |.region id A draw,a,ρ,k,s,res,Q,hQ,hk,h=>by
  have h:qzf a.wr T A draw (k .normal) s=some res:=by cases a<;>exact h
  exact qze (fun s'=>hk _ _) h
 |.seq x y,a,ρ,k,s,res,Q,hQ,hk,h=>by
  have key:∀a b,qh5 T nt lo a x (qwr (qh5 T nt lo b y k) k) s=some res->SCT P (.seq x y) Q s:=fun a b h=>by
   refine SCT.seq' (qec T nt lo x a (qwr (qh5 T nt lo b y k) k) s res _ (fun e s s' w q=>?_) (fun e s' q=>?_) h)
   ·cases e<;>first|exact SCT.weak w q|exact hQ _ _ _ w q
   ·cases e<;>first|exact qec T nt lo y b k s' res Q hQ hk q|exact hk _ _ q
  cases a with
  |o=>exact key _ _ h
  |seq a b=>exact key _ _ h
  |join sh a b=>
   have h:qh5 T nt lo a x (qwr (fun s'=>qnv nt lo s' sh (fun z:sh.D=>qh5 T nt lo b y k (mkS nt lo sh z.1 z.2))) k) s=some res:=h;refine SCT.seq' (qec T nt lo x a _ s res _ (fun e s s' w q=>?_) (fun e s' q=>?_) h)
   ·cases e<;>first|exact SCT.weak w q|exact hQ _ _ _ w q
   ·cases e<;>first|(obtain⟨z,w,q⟩:=qez q;exact SCT.weak w (qec T nt lo y b k _ res Q hQ hk q))|exact hk _ _ q
  |_=>cases h
 |.cond (.tmp t) x y,a,ρ,k,s,res,Q,hQ,hk,h=>by
  have key:∀a b,(match s.env t with
   |.b c=>bif Nat.blt t s.nt then(bif c then qh5 T nt lo a x k (s.put (some t) (.b true))else qh5 T nt lo b y k (s.put (some t) (.b false)))else none
   | _=>none)=some res->SCT P (.cond (.tmp t) x y) Q s:=fun a b h=>by
   split at h
   ·rename_i c hc;have hb:=zct hc;simp only[toV]at hb;have hh:=qaf h;clear h;obtain⟨hlt,h⟩:=hh;obtain⟨h1,h2⟩:=zc3 h;refine⟨SC.cond (b:=c) hb (fun e=>?_) (fun e=>?_)⟩
    ·have:=(qec T nt lo x a k _ res Q hQ hk (h1 e)).out;rw[qaw]at this;rwa [St.q94 (by rw[hb,e];simp only[toV]) hlt]at this
    ·have:=(qec T nt lo y b k _ res Q hQ hk (h2 e)).out;rw[qaw]at this;rwa [St.q94 (by rw[hb,e];simp only[toV]) hlt]at this
   ·cases h
  cases a with
  |o=>exact key _ _ h
  |cond a b=>exact key _ _ h
  |_=>cases h
 |.block id x,a,ρ,k,s,res,Q,hQ,hk,h=>by
  have key:∀a,qh5 T nt lo a x (inK id k) s=some res->SCT P (.block id x) Q s:=fun a h=>by
   refine SCT.block (qec T nt lo x a (inK id k) s res _ (fun e s s' w q=>?_) (fun e s' q=>?_) h)
   ·cases e with
    |exit id'=>
     simp only[inT]at q ⊢;cases hb:Nat.beq id' id<;>rw[hb]at q<;>exact hQ _ _ _ w q
    |_=>exact hQ _ _ _ w q
   ·cases e with
    |exit id'=>
     simp only[inT,inK]at q ⊢;cases hb:Nat.beq id' id<;>rw[hb]at q<;>exact hk _ _ q
    |_=>exact hk _ _ q
  cases a with
  |o=>exact key _ h
  |block a=>exact key _ h
  |_=>cases h
 |.loop x,a,ρ,k,s,res,Q,hQ,hk,h=>by
  cases a with
  |loop sh ex a=>
   have h:(qnv nt lo s sh fun y0=>
    qak (qap (fun y=>qh5 T nt lo a x (qzq nt lo sh ex) (mkS nt lo sh y.1 y.2)) y0) fun z=>qu8 nt lo k ex z)=some res:=h
   obtain⟨y0,w0,h⟩:=qez h;obtain⟨z,hz,h⟩:=qb9 h;obtain⟨n,hn⟩:=qjk.1 hz;refine SCT.weak w0 (SCT.loop fun J hW hJ=>?_);have main:∀n y,qi2 (fun y:sh.D=>qh5 T nt lo a x (qzq nt lo sh ex) (mkS nt lo sh y.1 y.2)) n y=some z->J (mkS nt lo sh y.1 y.2):=by
    intro n
    induction n with
    |zero=>intro y hy;cases hy
    |succ n ih=>
     intro y hy;simp only[qi2]at hy;split at hy
     ·rename_i y' hf;refine hJ _ (qec T nt lo x a _ _ _ _ (fun e s s' w q=>?_) (fun e s' q=>?_) hf)
      ·cases e<;>first|exact hW _ _ w q|exact hQ _ _ _ w q
      ·have no:∀e,qty nt lo s' e ex (fun z=>some (Sum.inr z:sh.D⊕ExD ex))=some (.inl y')->False:=fun e q=>by
        obtain⟨z,q,_⟩:=qm3 (ρ:=ρ) (k:=k) q;cases q
       cases e<;>first
        |(obtain⟨z,w,q⟩:=qez q;injection q with q;injection q with q;subst q;exact hW _ _ w (ih _ hy))
        |exact(no _ q).elim
     ·rename_i z' hf;injection hy with hy;subst hy;refine hJ _ (qec T nt lo x a _ _ _ _ (fun e s s' w q=>?_) (fun e s' q=>?_) hf)
      ·cases e<;>first|exact hW _ _ w q|exact hQ _ _ _ w q
      ·have yes:∀e,qty nt lo s' e ex (fun z=>some (Sum.inr z:sh.D⊕ExD ex))=some (.inr z')->Q e s':=fun e q=>by
        obtain⟨z,q,s1,w,q2⟩:=qm3 (ρ:=ρ) (k:=k) q;injection q with q;injection q with q;subst q;exact hQ _ _ _ w (hk _ _ (q2 _ h))
       cases e<;>first
        |(obtain⟨z,w,q⟩:=qez q;cases q;done)
        |exact yes _ q
     ·cases hy
   exact main n y0 hn
  |_=>cases h
 |.cond (.const v) x y,a,ρ,k,s,res,Q,hQ,hk,h=>by
  have key:∀a b c,v=.bool c->(bif c then qh5 T nt lo a x k s else qh5 T nt lo b y k s)=some res->SCT P (.cond (.const v) x y) Q s:=fun a b c hv g=>by
   clear h;subst hv;have hb:(qbc s).eval (.const (.bool c))=.t (.bool c):=rfl;refine⟨SC.cond (b:=c) hb (fun e=>?_) (fun e=>?_)⟩
   ·subst e;exact(qec T nt lo x a k _ res Q hQ hk g).out
   ·subst e;exact(qec T nt lo y b k _ res Q hQ hk g).out
  cases v with
  |bool c=>
   cases a with
   |o=>exact key .o .o c rfl h
   |cond a b=>exact key a b c rfl h
   |_=>cases h
  |_=>cases a<;>cases h
 |.cond (.global _) x y,a,ρ,k,s,res,Q,hQ,hk,h=>by cases a<;>cases h
 |.cond (.func _) x y,a,ρ,k,s,res,Q,hQ,hk,h=>by cases a<;>cases h
 |.rangeFunc _ _ _ _,a,ρ,k,s,res,Q,hQ,hk,h=>by cases a<;>cases h
 |.scope _,a,ρ,k,s,res,Q,hQ,hk,h=>by cases a<;>cases h
 |.label _,a,ρ,k,s,res,Q,hQ,hk,h=>by cases a<;>cases h
 |.goto _,a,ρ,k,s,res,Q,hQ,hk,h=>by cases a<;>cases h
 |.refuse _,a,ρ,k,s,res,Q,hQ,hk,h=>by cases a<;>cases h
end
end
end Go.Abs
namespace Go.Abs
open Go
noncomputable section
variable {P:Program} {ρ:Type}
section
variable [SU] [qa2] [qxv] [FFs]
def zdv(P:Program)[Tys P](s:ESt):ResultVar->(EV->Option ρ)->Option ρ
 |.tmp t,K=>fE (s.env t) K
 |.cell ad t,K=>qpn (P:=P) s.heap t (s.env ad) K
def q7b(P:Program)[Tys P](s:ESt):List ResultVar->(List EV->Option ρ)->Option ρ
 |[],K=>K []
 |r::l,K=>zdv P s r fun u=>q7b P s l fun us=>K (u::us)
theorem q7c[Tys P]{s:ESt}{rv:ResultVar}{K:EV->Option ρ}{res:ρ}(h:zdv P s rv K=some res):∃u,RV P (qbc s) rv (toV s.heap.len u)/\K u=some res:=by
 cases rv with
 |tmp t=>
  simp only[zdv,qj4]at h;exact⟨_,RV.tmp t,h⟩
 |cell ad t=>
  obtain⟨u,h1,h2⟩:=qn9 (a:=.tmp ad) h;refine⟨u,fun E M F a w r=>?_,h2⟩;obtain⟨v,h3,h4⟩:=h1 none t E M F a w r;refine⟨v,?_,h4⟩;have e:a.eval (.tmp ad)=a.tmps.getD ad undef:=rfl;simp only[execOp,GOp.oper,e,Instr.loadAt]at h3;simp only[qzd];generalize a.tmps.getD ad undef=x at h3 ⊢;have bad:∀m:String,((Instr.sureAddr x >>= loadVar t) >>= fun y=>(Pure.pure (Next.value y):Sem Next)).run P w=.ok (.value v) w->(Instr.sureAddr x=stuck m)->False:=fun m h e=>by
   rw[e]at h;simp[Sem.run_bind,stuck]at h
  cases x with
  |pointer o=>
   cases o with
   |none=>exact(bad _ h3 rfl).elim
   |some ad'=>
    simp only[Instr.sureAddr,asAddr,Sem.run_bind,Sem.run_pure,Result.andThen_ok]at h3 ⊢;cases hl:(loadVar t ad').run P w with
    |ok c w'=>
     rw[hl]at h3;simp only[Result.andThen_ok]at h3;injection h3 with h5 h6;injection h5 with h5;subst h5;subst h6;rfl
    |halt x w'=>rw[hl]at h3;cases h3
  |_=>exact(bad _ h3 rfl).elim
theorem qun[Tys P]{s:ESt}:∀ {l:List ResultVar} {K:List EV->Option ρ} {res:ρ},q7b P s l K=some res->∃us,K us=some res/\∀E M F a w,Rel E M F (qbc s) a w->∃cs:List Value,(l.mapM (qzd a.tmps)).run P w=.ok cs w/\cs.length=us.length/\∀j,j<us.length->∃c,cs[j]?=some c/\qay (toH s.heap) M F w (toV s.heap.len (qdb us j)) c
 |[],K,res,h=>⟨[],h,fun E M F a w r=>⟨[],rfl,rfl,fun j hj=>absurd hj (zhf _)⟩⟩
 |rv::l,K,res,h=>by
  obtain⟨u,h1,h⟩:=q7c h;obtain⟨us,h,h2⟩:=qun (l:=l) h;refine⟨u::us,h,fun E M F a w r=>?_⟩;obtain⟨c,c1,c2⟩:=h1 E M F a w r;obtain⟨cs,c3,c4,c5⟩:=h2 E M F a w r;refine⟨c::cs,by simp[List.mapM_cons,c1,c3],by simp[c4],fun j hj=>?_⟩;cases j with
  |zero=>exact⟨c,rfl,c2⟩
  |succ j=>obtain⟨c',d1,d2⟩:=c5 j (by simpa using hj);exact⟨c',by simpa using d1,d2⟩
def zdh:List EV->EV
 |[u]=>u
 |l=>.tup l
def zaa:Sh->EV->List Nat
 |.fz _,.qa5 k []=>[k]
 |.st _,.agg m=>qpr (.agg m)
 |.agg l,.agg m=>qx8 l m
 |.tup l,.tup m=>qx8 l m
 |_,_=>[]
where qx8:List Sh->List EV->List Nat
 |a::l,u::m=>zaa a u++qx8 l m
 |_,_=>[]
def zf5(s:ESt)(u:EV):ESt:=⟨1,qdb [u],s.heap⟩
def zeo(P:Program)[Tys P](rs:List ResultVar)(lo:Nat)(rv:Sh)(ro:List OSh)(s:ESt):Option (rv.D×DO ro):=
 q7b P s rs fun us=>qh0 (zf5 s (zdh us)) (fun s'=>qnv 1 lo s' ⟨[(0,rv)],ro⟩ (fun z=>some (z.1.1,z.2))) (zaa rv (zdh us))
def zgn(P:Program)[Tys P](rs:List ResultVar)(lo:Nat)(rv:Sh)(ro:List OSh):Exit->ESt->Option (rv.D×DO ro)
 |.ret,s=>zeo P rs lo rv ro s
 |.normal,s=>zeo P rs lo rv ro s
 |_,_=>none
structure quj(P:Program)(fn:Func)(lo:Nat)(rv:Sh)(ro:List OSh)(res:rv.D×DO ro)(s:ESt):Prop where
 out:∀E M F a w,Rel E M F (qbc s) a w->∃c ι' F',(results fn a.tmps).run P w=.ok c w/\qc4 E ι' F' (toH (mkH lo ro res.2)) w/\qay (toH (mkH lo ro res.2)) ι' F' w (toV (mkH lo ro res.2).len (mkE rv res.1)) c
theorem quj.weak{fn:Func}{lo:Nat}{rv:Sh}{ro:List OSh}{res:rv.D×DO ro}{s s':ESt}(w:qb1 s s')(h:quj P fn lo rv ro res s'):quj P fn lo rv ro res s:=
 ⟨fun E M F a w' r=>by obtain⟨ι',F',r'⟩:=w E M F a w' r;exact h.out E ι' F' a w' r'⟩
theorem qzr[Tys P]{fn:Func}{lo:Nat}{rv:Sh}{ro:List OSh}{res:rv.D×DO ro}{s:ESt}(h:zeo P fn.results.toList lo rv ro s=some res):quj P fn lo rv ro res s:=by
 obtain⟨us,h,hu⟩:=qun h;obtain⟨s',w,h⟩:=qdk _ _ h;obtain⟨z,w2,h⟩:=qez h;injection h with h;subst h;refine⟨fun E M F a w' r=>?_⟩;obtain⟨cs,c1,c2,c3⟩:=hu E M F a w' r;have hc:∃c,(results fn a.tmps).run P w'=.ok c w'/\qay (toH s.heap) M F w' (toV s.heap.len (zdh us)) c:=by
  rw[qw0];have e:(fn.results.mapM (qzd a.tmps)).run P w'=.ok cs.toArray w':=by
   rw[Array.mapM_eq_mapM_toList,Sem.run_map,c1];rfl
  rw[Sem.run_bind,e];simp only[Result.andThen_ok];have tupR:∀us:List EV,us.length≠1->cs.length=us.length->(∀j,j<us.length->∃c,cs[j]?=some c/\qay (toH s.heap) M F w' (toV s.heap.len (qdb us j)) c) ->
    ∃c,(Pure.pure (if h:cs.toArray.size=1 then cs.toArray[0]else .tuple cs.toArray):Sem Value).run P w'=.ok c w'/\qay (toH s.heap) M F w' (toV s.heap.len (.tup us)) c:=fun us h1 h2 h3=>by
   rw[dif_neg (by simpa[h2]using h1)];refine⟨_,rfl,?_⟩;simp only[toV];exact⟨cs.toArray,rfl,by simpa using h2,fun j hj=>by obtain⟨c,q1,q2⟩:=h3 j hj;exact⟨c,by simpa using q1,by rw[<- qey];exact q2⟩⟩
  match us,c2,c3 with
  |[],c2,c3=>exact tupR [] (by simp) c2 c3
  |[u],c2,c3=>
   obtain⟨c,q1,q2⟩:=c3 0 (by simp);refine⟨c,?_,q2⟩;have:cs=[c]:=by
    match cs,c2,q1 with
    |[x],_,q1=>simpa using q1
   subst this;rfl
  |u::v::l,c2,c3=>exact tupR _ (by simp) c2 c3
 obtain⟨c,k1,k2⟩:=hc;have r1:Rel E M F (qbc (zf5 s (zdh us))) { tmps:=#[c],defers:=[] } w':=⟨r.h,fun t=>by
  cases t with
  |zero=>exact k2
  | succ t=>exact trivial,rfl,rfl⟩
 obtain⟨ι1,F1,r2⟩:=w _ _ _ _ _ r1;obtain⟨ι2,F2,r3⟩:=w2 _ _ _ _ _ r2;exact⟨c,ι2,F2,k1,r3.h,r3.env 0⟩
noncomputable def qei(T:List (Ctr P))[Tys P][TyE P][TyX P](fn:Func)(a:Ann)(ar:List (Nat×Sh))(os:List OSh)(rv:Sh)(ro:List OSh)(x:DT ar)(y:DO os):Option (rv.D×DO ro):=
 bif Nat.ble ar.length fn.ntmps then(match fn.body with
  |some c=>qh5 T fn.ntmps os.length a c (zgn P fn.results.toList os.length rv ro) ⟨fn.ntmps,qdb (qc2 ar x),mkH os.length os y⟩
  | none=>none)else none
theorem CT.of{T:List (Ctr P)}[Tys P][TyE P][TyX P][qui P]{f:FuncId}{fn:Func}{a:Ann}{ar:List (Nat×Sh)}{os:List OSh}{rv:Sh}{ro:List OSh}{x:DT ar}{y:DO os}{r:rv.D×DO ro}(hf:P.funcs[f]?=some fn)
  (h:qei T fn a ar os rv ro x y=some r):CT P f (qc2 ar x) (mkH os.length os y) (fun v H'=>v=mkE rv r.1/\H'=mkH os.length ro r.2):=by
 unfold qei at h;have hh:=qaf h;clear h;obtain⟨hle,h⟩:=hh;have hle:=zg4 hle;split at h
 ·rename_i c hb;have hs:=(qec T fn.ntmps os.length c a _ _ r (fun e s=>(e=.ret\/e=.normal)/\quj P fn os.length rv ro r s) (fun e s s' w q=>⟨q.1,q.2.weak w⟩) (fun e s' q=>by
   cases e<;>first|exact⟨.inl rfl,qzr q⟩|exact⟨.inr rfl,qzr q⟩|cases q) h).out
  refine⟨fun E M F w cargs r0 hl ha=>calls_of_wp hf hb ?_⟩;have r1:Rel E M F (qbc ⟨fn.ntmps,qdb (qc2 ar x),mkH os.length os y⟩) { tmps:=cargs++Array.replicate (fn.ntmps-cargs.size) undef,defers:=[] } w:=by
   have hl':(qc2 ar x).length=ar.length:=qc0 _ _;refine⟨r0,fun t=>?_,?_,rfl⟩
   ·show qay _ M F w (toV _ (qdb (qc2 ar x) t)) ((cargs++Array.replicate (fn.ntmps-cargs.size) undef).getD t undef);by_cases ht:t<(qc2 ar x).length
    ·have e:(cargs++Array.replicate (fn.ntmps-cargs.size) undef).getD t undef=cargs.getD t undef:=by
      rw[zhl,zi5 (by omega),zhl]
     rw[e];exact ha t ht
    ·have:∀(l:List EV) (t:Nat),l.length<=t->qdb l t=.un:=by
      intro l
      induction l with
      |nil=>intro t _;rfl
      |cons a l ih=>intro t ht;cases t with
       |zero=>simp at ht
       |succ t=>exact ih t (by simpa using ht)
     rw[this _ _ (zhz ht)];simp only[toV];exact trivial
   ·show(cargs++Array.replicate (fn.ntmps-cargs.size) undef).size=fn.ntmps;simp;omega
  have fin:∀e a w',(e=.ret\/e=.normal)->qjj E (qe9 (fun e s=>(e=.ret\/e=.normal)/\quj P fn os.length rv ro r s)) e a w'->∃st:St,a.defers=[]/\∃c,(results fn a.tmps).run P w'=.ok c w'/\∃ι' F',qc4 E ι' F' (toH (mkH os.length ro r.2)) w'/\qay (toH (mkH os.length ro r.2)) ι' F' w' (toV (mkH os.length ro r.2).len (mkE rv r.1)) c:=fun e a w' he hc=>by
   have:∃M F st,Rel E M F st a w'/\qe9 (fun e s=>(e=.ret\/e=.normal)/\quj P fn os.length rv ro r s) e st:=by
    rcases he with rfl|rfl<;>exact hc
   obtain⟨M,F,st,rr,s,rfl,_,ho⟩:=this;obtain⟨c,ι',F',k1,k2,k3⟩:=ho.out E M F a w' rr;exact⟨qbc s,rr.defers,c,k1,ι',F',k2,k3⟩
  refine wp_mono (hs.out E M F _ w r1) fun e a w' hc=>?_;cases e with
  |ret=>
   obtain⟨_,d,c,k1,ι',F',k2,k3⟩:=fin _ _ _ (.inl rfl) hc;exact⟨d,c,k1,mkE rv r.1,ι',F',mkH os.length ro r.2,c,rfl,k2,k3,rfl,rfl⟩
  |normal=>
   obtain⟨_,d,c,k1,ι',F',k2,k3⟩:=fin _ _ _ (.inr rfl) hc;exact⟨d,c,k1,mkE rv r.1,ι',F',mkH os.length ro r.2,c,rfl,k2,k3,rfl,rfl⟩
  |exit id=>obtain⟨M,F,st,r,s,rfl,h,_⟩:=hc;rcases h with h|h<;>cases h
  |goto l=>obtain⟨M,F,st,r,s,rfl,h,_⟩:=hc;rcases h with h|h<;>cases h
  |panic c=>exact hc.elim
  |outgrown=>exact hc.elim
 ·cases h
end
end
end Go.Abs
namespace Go.Abs
open Go
noncomputable section
section
variable [SU] [qa2] [qxv] [FFs] {P:Program}
def qcn[Tys P][TyE P][TyX P][qui P](f:FuncId)[k:qd0 P f](fn:Func)(hf:P.funcs[f]?=some fn)(T:List (Ctr P))(a:Ann)(ar:List (Nat×Sh))(os:List OSh)(rv:Sh)(ro:List OSh)
  (F:DT ar->DO os->Option (rv.D×DO ro)) (h:∀x y r,F x y=some r->qei T fn a ar os rv ro x y=some r):Ctr P:=
 ⟨f,k,ar,os,rv,ro,F,fun x y r e=>CT.of hf (h x y r e)⟩
end
section
variable {ρ α:Type}
theorem q00{b:Bool}{x:Option ρ}(h:b=true):grd b x=x:=by rw[h];rfl
@[simp] theorem qcw{x:Option ρ}:grd true x=x:=rfl
theorem qib{p:Prop}{x:Option ρ}(h:p):grd (okB p) x=x:=q00 (ql9 h)
theorem qdi{a b:Nat}{x:Option ρ}(h:a<b):grd (Nat.blt a b) x=x:=q00 (by simpa using h)
@[simp] theorem qah{y:α}{K:α->Option ρ}:qak (some y) K=K y:=rfl
@[simp] theorem qsp{b:Bool}{x:Option α}{K:α->Option ρ}:qak (grd b x) K=grd b (qak x K):=by cases b<;>rfl
@[simp] theorem qd9{f:α->Option ρ}{g:(α->Option ρ)->Option ρ}:jpO f g=g f:=rfl
@[simp] theorem qc1{p:Prop}[Decidable p]{β:Type}{x y:β}:(bif decide p then x else y)=if p then x else y:=by by_cases h:p<;>simp[h]
theorem qqp{b:Bool}{β:Type}{x y:β}:(bif !b then x else y)=bif b then y else x:=by cases b<;>rfl
theorem qic{β:Type}{by_:Nat}{ok:β->Prop}{l:List β}(h:All by_ ok l)(d:β){i:Nat}(hi:i<l.length):ok (l.getD i d):=by
 have:=h.2 l[i] (zh4 hi);simpa[zg0,hi]using this
theorem qbj{x:Option α}{y:α}{K:α->Option ρ}{r:Option ρ}(h:x=some y)(k:K y=r):qak x K=r:=by rw[h];exact k
section
variable {D X:Type} {f:D->Option (D⊕X)} {st:Nat->D}
theorem qn1{X0:X}{y0:D}(hy:y0=st 0)(n:Nat)(G:Nat->Prop)(h0:G 0)(hs:∀i,i<n->G i->(f (st i)=some (.inl (st (i+1)))/\G (i+1))\/f (st i)=some (.inr X0))(he:G n->f (st n)=some (.inr X0)):qap f y0=some X0:=by
 subst hy;have key:∀k i,i+k=n->G i->qap f (st i)=some X0:=by
  intro k
  induction k with
  |zero=>intro i hi hg;rw[qa8,show i=n by omega,he (by rw[show n=i by omega];exact hg)]
  |succ k ih=>
   intro i hi hg;rw[qa8];rcases hs i (by omega) hg with⟨h1,h2⟩|h1
   ·rw[h1];exact ih (i+1) (by omega) h2
   ·rw[h1]
 exact key n 0 (by omega) h0
theorem qbg{β:Type}{l:List β}{y0:D}(hy:y0=st 0)(z:β)(p:β->Bool){A B:X}(h1:∀i,i<l.length->p (l.getD i z)=true->f (st i)=some (.inl (st (i+1))))(h2:∀i,i<l.length->p (l.getD i z)=false->f (st i)=some (.inr B))
  (h3:l.all p=true->f (st l.length)=some (.inr A)):qap f y0=some (if l.all p then A else B):=by
 refine qn1 hy l.length (fun i=>∀j,j<i->p (l.getD j z)=true) (fun j hj=>absurd hj (zhf _)) (fun i hi hg=>?_) (fun hg=>?_)
 ·cases hp:p (l.getD i z)with
  |true=>
   refine .inl ⟨h1 i hi hp,fun j hj=>?_⟩;by_cases e:j=i
   ·rw[e];exact hp
   ·exact hg j (by omega)
  |false=>
   right
   have:l.all p=false:=by
    rw[List.all_eq_false];refine⟨l[i],zh4 hi,?_⟩;have e:l.getD i z=l[i]:=by simp[zg0,hi]
    rw[<- e,hp];simp
   rw[this];exact h2 i hi hp
 ·have:l.all p=true:=by
   rw[zhm];intro x hx;obtain⟨i,hi,rfl⟩:=zis hx;have e:l.getD i z=l[i]:=by simp[zg0,hi]
   rw[<- e];exact hg i hi
  rw[h3 this,this];rfl
theorem qct{X0:X}{y0:D}(hy:y0=st 0)(n:Nat)(h1:∀i,i<n->f (st i)=some (.inl (st (i+1))))(h2:f (st n)=some (.inr X0)):qap f y0=some X0:=
 qn1 hy n (fun _=>True) trivial (fun i hi _=>.inl ⟨h1 i hi,trivial⟩) (fun _=>h2)
end
theorem qas{p:Prop}{x:Option ρ}(h:p):grd (okB p) x=x:=q00 (ql9 h)
theorem FE{run go:Option ρ}{s r:ρ}(hr:run=go)(ok:go=some s)(h:some s=some r):run=some r:=by rw[hr,ok,h]
theorem FO{p:Prop}{run go:Option ρ}{s r:ρ}(hr:run=go)(ok:p->go=some s)(h:grd (okB p) (some s)=some r):run=some r:=by
 cases hb:okB p with
 |false=>rw[hb]at h;cases h
 |true=>
  rw[hb]at h;rw[hr,ok (qc5 hb)];exact h
theorem qc6:LEN=281474976710656:=rfl
@[simp] theorem qeh{A B:Type}{f:A->Option ρ}{g:B->Option ρ}{a:A}:qjo f g (.inl a)=f a:=rfl
@[simp] theorem qfb{A B:Type}{f:A->Option ρ}{g:B->Option ρ}{b:B}:qjo f g (.inr b)=g b:=rfl
end
end
noncomputable section
theorem gsA:type_of% (And.intro @qib (And.intro @qdi (And.intro @qcw (And.intro @qd9 (And.intro @qls (And.intro @qah (And.intro @qsp (And.intro @qc1 (And.intro @qeh (And.intro @qfb (And.intro @if_pos.{1} (And.intro @if_neg.{1} (And.intro @cond_true.{1} (And.intro @cond_false.{1} (And.intro @qqp (And.intro @if_true.{1} @if_false.{1})))))))))))))))):=And.intro @qib (And.intro @qdi (And.intro @qcw (And.intro @qd9 (And.intro @qls (And.intro @qah (And.intro @qsp (And.intro @qc1 (And.intro @qeh (And.intro @qfb (And.intro @if_pos.{1} (And.intro @if_neg.{1} (And.intro @cond_true.{1} (And.intro @cond_false.{1} (And.intro @qqp (And.intro @if_true.{1} @if_false.{1})))))))))))))))
theorem gsB:type_of% (And.intro @zhe (And.intro @zhw (And.intro @zh2 (And.intro @decide_true (And.intro @decide_false (And.intro @zhs (And.intro @Int.natCast_add (And.intro @Int.cast_ofNat_Int (And.intro @zhn (And.intro @decide_eq_false_iff_not (And.intro @not_true_eq_false @not_false_eq_true))))))))))):=And.intro @zhe (And.intro @zhw (And.intro @zh2 (And.intro @decide_true (And.intro @decide_false (And.intro @zhs (And.intro @Int.natCast_add (And.intro @Int.cast_ofNat_Int (And.intro @zhn (And.intro @decide_eq_false_iff_not (And.intro @not_true_eq_false @not_false_eq_true))))))))))
end
end Go.Abs
namespace Go.Abs
open Go Go.Proofs
def zfx:TyC:={ agg:=false,sz:=1,desc:=some (.int .i64),zero:=some (.int .i64 0) }
theorem q7m:TyC.Ok Try.prog 2 zfx:=⟨(fun h=>inferInstance),(fun f off a s h=>by cases h),(fun e s b h=>by cases h),(fun x h=>by cases h;infer_instance),(fun v h=>by cases h;infer_instance)⟩
def zfw:TyC:={ agg:=false,sz:=1,desc:=some (.int .i64),zero:=some (.int .i64 0) }
theorem q7l:TyC.Ok Try.prog 3 zfw:=⟨(fun h=>inferInstance),(fun f off a s h=>by cases h),(fun e s b h=>by cases h),(fun x h=>by cases h;infer_instance),(fun v h=>by cases h;infer_instance)⟩
def zfv:TyC:={ agg:=false,sz:=1,desc:=some .bool,zero:=some (.bool false) }
theorem q7k:TyC.Ok Try.prog 4 zfv:=⟨(fun h=>inferInstance),(fun f off a s h=>by cases h),(fun e s b h=>by cases h),(fun x h=>by cases h;infer_instance),(fun v h=>by cases h;infer_instance)⟩
def zfu:TyC:={ agg:=false,sz:=1,desc:=some (.int .u8),zero:=some (.int .u8 0) }
theorem q7j:TyC.Ok Try.prog 5 zfu:=⟨(fun h=>inferInstance),(fun f off a s h=>by cases h),(fun e s b h=>by cases h),(fun x h=>by cases h;infer_instance),(fun v h=>by cases h;infer_instance)⟩
def zft:TyC:={ agg:=false,sz:=1,desc:=some .string,zero:=some (.string ByteArray.empty) }
theorem q7i:TyC.Ok Try.prog 9 zft:=⟨(fun h=>inferInstance),(fun f off a s h=>by cases h),(fun e s b h=>by cases h),(fun x h=>by cases h;infer_instance),(fun v h=>by cases h;infer_instance)⟩
def zbi:TyC:={ agg:=false,sz:=1,zero:=some (.nilFunc) }
theorem q3x:TyC.Ok Try.prog 23 zbi:=⟨(fun h=>inferInstance),(fun f off a s h=>by cases h),(fun e s b h=>by cases h),(fun x h=>by cases h),(fun v h=>by cases h;infer_instance)⟩
def zbh:TyC:={ agg:=false,sz:=1,zero:=some (.nilFunc) }
theorem q3w:TyC.Ok Try.prog 24 zbh:=⟨(fun h=>inferInstance),(fun f off a s h=>by cases h),(fun e s b h=>by cases h),(fun x h=>by cases h),(fun v h=>by cases h;infer_instance)⟩
def zbg:TyC:={ agg:=false,sz:=1,sl:=some (3,1,8),zero:=some (.slice none 0 0) }
theorem q3v:TyC.Ok Try.prog 25 zbg:=⟨(fun h=>inferInstance),(fun f off a s h=>by cases h),(fun e s b h=>by cases h;infer_instance),(fun x h=>by cases h),(fun v h=>by cases h;infer_instance)⟩
def zbf:TyC:={ agg:=false,sz:=1,sl:=some (53,5,48),zero:=some (.slice none 0 0) }
theorem q3u:TyC.Ok Try.prog 26 zbf:=⟨(fun h=>inferInstance),(fun f off a s h=>by cases h),(fun e s b h=>by cases h;infer_instance),(fun x h=>by cases h),(fun v h=>by cases h;infer_instance)⟩
def zbe:TyC:={ agg:=false,sz:=1,sl:=some (55,3,32),zero:=some (.slice none 0 0) }
theorem q3t:TyC.Ok Try.prog 27 zbe:=⟨(fun h=>inferInstance),(fun f off a s h=>by cases h),(fun e s b h=>by cases h;infer_instance),(fun x h=>by cases h),(fun v h=>by cases h;infer_instance)⟩
def zbd:TyC:={ agg:=false,sz:=1,sl:=some (41,9,136),zero:=some (.slice none 0 0) }
theorem q3s:TyC.Ok Try.prog 28 zbd:=⟨(fun h=>inferInstance),(fun f off a s h=>by cases h),(fun e s b h=>by cases h;infer_instance),(fun x h=>by cases h),(fun v h=>by cases h;infer_instance)⟩
def zbc:TyC:={ agg:=true,sz:=6,fields:=[(0,false,1),(1,false,1),(2,false,1),(3,false,1),(4,false,1),(5,false,1)],zero:=some (.agg #[.string ByteArray.empty,.slice none 0 0,.slice none 0 0,.slice none 0 0,.slice none 0 0,.slice none 0 0]) }
theorem q3r:TyC.Ok Try.prog 30 zbc:=⟨(fun h=>inferInstance),(qi5 ⟨(inferInstance:qan Try.prog 30 0 0 false 1),(inferInstance:qan Try.prog 30 1 1 false 1),(inferInstance:qan Try.prog 30 2 2 false 1),(inferInstance:qan Try.prog 30 3 3 false 1),(inferInstance:qan Try.prog 30 4 4 false 1),(inferInstance:qan Try.prog 30 5 5 false 1),trivial⟩),(fun e s b h=>by cases h),(fun x h=>by cases h),(fun v h=>by cases h;infer_instance)⟩
def zbb:TyC:={ agg:=false,sz:=1,sl:=some (46,5,56),zero:=some (.slice none 0 0) }
theorem q3q:TyC.Ok Try.prog 36 zbb:=⟨(fun h=>inferInstance),(fun f off a s h=>by cases h),(fun e s b h=>by cases h;infer_instance),(fun x h=>by cases h),(fun v h=>by cases h;infer_instance)⟩
def zba:TyC:={ agg:=false,sz:=1,sl:=some (51,2,32),zero:=some (.slice none 0 0) }
theorem q3p:TyC.Ok Try.prog 37 zba:=⟨(fun h=>inferInstance),(fun f off a s h=>by cases h),(fun e s b h=>by cases h;infer_instance),(fun x h=>by cases h),(fun v h=>by cases h;infer_instance)⟩
def za9:TyC:={ agg:=true,sz:=4,fields:=[(0,false,1),(1,false,1),(2,false,1),(3,false,1)],zero:=some (.agg #[.int .i64 0,.int .i64 0,.slice none 0 0,.slice none 0 0]) }
theorem q3o:TyC.Ok Try.prog 39 za9:=⟨(fun h=>inferInstance),(qi5 ⟨(inferInstance:qan Try.prog 39 0 0 false 1),(inferInstance:qan Try.prog 39 1 1 false 1),(inferInstance:qan Try.prog 39 2 2 false 1),(inferInstance:qan Try.prog 39 3 3 false 1),trivial⟩),(fun e s b h=>by cases h),(fun x h=>by cases h),(fun v h=>by cases h;infer_instance)⟩
def za8:TyC:={ agg:=true,sz:=9,fields:=[(0,false,1),(1,false,1),(2,true,4),(6,false,1),(7,false,1),(8,false,1)],zero:=some (.agg #[.slice none 0 0,.slice none 0 0,.int .i64 0,.int .i64 0,.slice none 0 0,.slice none 0 0,.int .i64 0,.int .i64 0,.int .i64 0]) }
theorem q3n:TyC.Ok Try.prog 41 za8:=⟨(fun h=>inferInstance),(qi5 ⟨(inferInstance:qan Try.prog 41 0 0 false 1),(inferInstance:qan Try.prog 41 1 1 false 1),(inferInstance:qan Try.prog 41 2 2 true 4),(inferInstance:qan Try.prog 41 3 6 false 1),(inferInstance:qan Try.prog 41 4 7 false 1),(inferInstance:qan Try.prog 41 5 8 false 1),trivial⟩),(fun e s b h=>by cases h),(fun x h=>by cases h),(fun v h=>by cases h;infer_instance)⟩
def za7:TyC:={ agg:=false,sz:=1,desc:=some (.int .u64),zero:=some (.int .u64 0) }
theorem q3m:TyC.Ok Try.prog 44 za7:=⟨(fun h=>inferInstance),(fun f off a s h=>by cases h),(fun e s b h=>by cases h),(fun x h=>by cases h;infer_instance),(fun v h=>by cases h;infer_instance)⟩
def za6:TyC:={ agg:=true,sz:=5,fields:=[(0,false,1),(1,false,1),(2,false,1),(3,false,1),(4,false,1)],zero:=some (.agg #[.int .i64 0,.int .i64 0,.slice none 0 0,.int .u64 0,.int .i64 0]) }
theorem q3l:TyC.Ok Try.prog 46 za6:=⟨(fun h=>inferInstance),(qi5 ⟨(inferInstance:qan Try.prog 46 0 0 false 1),(inferInstance:qan Try.prog 46 1 1 false 1),(inferInstance:qan Try.prog 46 2 2 false 1),(inferInstance:qan Try.prog 46 3 3 false 1),(inferInstance:qan Try.prog 46 4 4 false 1),trivial⟩),(fun e s b h=>by cases h),(fun x h=>by cases h),(fun v h=>by cases h;infer_instance)⟩
def za5:TyC:={ agg:=true,sz:=2,fields:=[(0,false,1),(1,false,1)],zero:=some (.agg #[.int .i64 0,.slice none 0 0]) }
theorem q3k:TyC.Ok Try.prog 51 za5:=⟨(fun h=>inferInstance),(qi5 ⟨(inferInstance:qan Try.prog 51 0 0 false 1),(inferInstance:qan Try.prog 51 1 1 false 1),trivial⟩),(fun e s b h=>by cases h),(fun x h=>by cases h),(fun v h=>by cases h;infer_instance)⟩
def za4:TyC:={ agg:=true,sz:=5,fields:=[(0,false,1),(1,false,1),(2,false,1),(3,false,1),(4,false,1)],zero:=some (.agg #[.string ByteArray.empty,.int .i64 0,.int .i64 0,.int .i64 0,.int .i64 0]) }
theorem q3j:TyC.Ok Try.prog 53 za4:=⟨(fun h=>inferInstance),(qi5 ⟨(inferInstance:qan Try.prog 53 0 0 false 1),(inferInstance:qan Try.prog 53 1 1 false 1),(inferInstance:qan Try.prog 53 2 2 false 1),(inferInstance:qan Try.prog 53 3 3 false 1),(inferInstance:qan Try.prog 53 4 4 false 1),trivial⟩),(fun e s b h=>by cases h),(fun x h=>by cases h),(fun v h=>by cases h;infer_instance)⟩
def za3:TyC:={ agg:=true,sz:=3,fields:=[(0,false,1),(1,false,1),(2,false,1)],zero:=some (.agg #[.string ByteArray.empty,.int .i64 0,.bool false]) }
theorem q3i:TyC.Ok Try.prog 55 za3:=⟨(fun h=>inferInstance),(qi5 ⟨(inferInstance:qan Try.prog 55 0 0 false 1),(inferInstance:qan Try.prog 55 1 1 false 1),(inferInstance:qan Try.prog 55 2 2 false 1),trivial⟩),(fun e s b h=>by cases h),(fun x h=>by cases h),(fun v h=>by cases h;infer_instance)⟩
def za2:TyC:={ agg:=true,sz:=2,fields:=[(0,false,1),(1,false,1)],zero:=some (.agg #[.int .i64 0,.bool false]) }
theorem q3h:TyC.Ok Try.prog 57 za2:=⟨(fun h=>inferInstance),(qi5 ⟨(inferInstance:qan Try.prog 57 0 0 false 1),(inferInstance:qan Try.prog 57 1 1 false 1),trivial⟩),(fun e s b h=>by cases h),(fun x h=>by cases h),(fun v h=>by cases h;infer_instance)⟩
def za1:TyC:={ agg:=true,sz:=4,zero:=some (.agg #[.int .i64 0,.bool false,.int .i64 0,.bool false]) }
theorem q3g:TyC.Ok Try.prog 58 za1:=⟨(fun h=>inferInstance),(fun f off a s h=>by cases h),(fun e s b h=>by cases h),(fun x h=>by cases h),(fun v h=>by cases h;infer_instance)⟩
def za0:TyC:={ agg:=true,sz:=2,zero:=some (.agg #[.int .u64 0,.int .u64 0]) }
theorem q3f:TyC.Ok Try.prog 59 za0:=⟨(fun h=>inferInstance),(fun f off a s h=>by cases h),(fun e s b h=>by cases h),(fun x h=>by cases h),(fun v h=>by cases h;infer_instance)⟩
def zaz:TyC:={ agg:=true,sz:=2,zero:=some (.agg #[.int .u8 0,.int .u8 0]) }
theorem q3e:TyC.Ok Try.prog 64 zaz:=⟨(fun h=>inferInstance),(fun f off a s h=>by cases h),(fun e s b h=>by cases h),(fun x h=>by cases h),(fun v h=>by cases h;infer_instance)⟩
def zay:TyC:={ agg:=false,sz:=1,sl:=some (25,1,24),zero:=some (.slice none 0 0) }
theorem q3d:TyC.Ok Try.prog 67 zay:=⟨(fun h=>inferInstance),(fun f off a s h=>by cases h),(fun e s b h=>by cases h;infer_instance),(fun x h=>by cases h),(fun v h=>by cases h;infer_instance)⟩
def zax:TyC:={ agg:=false,sz:=1,sl:=some (4,1,1),zero:=some (.slice none 0 0) }
theorem q3c:TyC.Ok Try.prog 69 zax:=⟨(fun h=>inferInstance),(fun f off a s h=>by cases h),(fun e s b h=>by cases h;infer_instance),(fun x h=>by cases h),(fun v h=>by cases h;infer_instance)⟩
def zaw:TyC:={ agg:=false,sz:=1,zero:=some (.nilFunc) }
theorem q3b:TyC.Ok Try.prog 82 zaw:=⟨(fun h=>inferInstance),(fun f off a s h=>by cases h),(fun e s b h=>by cases h),(fun x h=>by cases h),(fun v h=>by cases h;infer_instance)⟩
def zav:TyC:={ agg:=false,sz:=1,desc:=some (.map 3 3),zero:=some (.map none) }
theorem q3a:TyC.Ok Try.prog 91 zav:=⟨(fun h=>inferInstance),(fun f off a s h=>by cases h),(fun e s b h=>by cases h),(fun x h=>by cases h;infer_instance),(fun v h=>by cases h;infer_instance)⟩
def q59:TyC:={ agg:=false,sz:=1,zero:=some (.pointer none) }
theorem qyu:TyC.Ok Try.prog 105 q59:=⟨(fun h=>inferInstance),(fun f off a s h=>by cases h),(fun e s b h=>by cases h),(fun x h=>by cases h),(fun v h=>by cases h;infer_instance)⟩
def q58:TyC:={ agg:=true,sz:=8,fields:=[(0,true,6),(6,false,1),(7,false,1)],zero:=some (.agg #[.string ByteArray.empty,.slice none 0 0,.slice none 0 0,.slice none 0 0,.slice none 0 0,.slice none 0 0,.slice none 0 0,.slice none 0 0]) }
theorem qyt:TyC.Ok Try.prog 107 q58:=⟨(fun h=>inferInstance),(qi5 ⟨(inferInstance:qan Try.prog 107 0 0 true 6),(inferInstance:qan Try.prog 107 1 6 false 1),(inferInstance:qan Try.prog 107 2 7 false 1),trivial⟩),(fun e s b h=>by cases h),(fun x h=>by cases h),(fun v h=>by cases h;infer_instance)⟩
def q57:TyC:={ agg:=false,sz:=1,sl:=some (9,1,16),zero:=some (.slice none 0 0) }
theorem qys:TyC.Ok Try.prog 113 q57:=⟨(fun h=>inferInstance),(fun f off a s h=>by cases h),(fun e s b h=>by cases h;infer_instance),(fun x h=>by cases h),(fun v h=>by cases h;infer_instance)⟩
def q56:TyC:={ agg:=false,sz:=1,zero:=some (.nilFunc) }
theorem qyr:TyC.Ok Try.prog 117 q56:=⟨(fun h=>inferInstance),(fun f off a s h=>by cases h),(fun e s b h=>by cases h),(fun x h=>by cases h),(fun v h=>by cases h;infer_instance)⟩
def q55:TyC:={ agg:=false,sz:=1,zero:=some (.nilFunc) }
theorem qyq:TyC.Ok Try.prog 119 q55:=⟨(fun h=>inferInstance),(fun f off a s h=>by cases h),(fun e s b h=>by cases h),(fun x h=>by cases h),(fun v h=>by cases h;infer_instance)⟩
def q54:TyC:={ agg:=false,sz:=1,zero:=some (.nilFunc) }
theorem qyp:TyC.Ok Try.prog 120 q54:=⟨(fun h=>inferInstance),(fun f off a s h=>by cases h),(fun e s b h=>by cases h),(fun x h=>by cases h),(fun v h=>by cases h;infer_instance)⟩
def q53:TyC:={ agg:=false,sz:=1,sl:=some (5,1,1),zero:=some (.slice none 0 0) }
theorem qyo:TyC.Ok Try.prog 133 q53:=⟨(fun h=>inferInstance),(fun f off a s h=>by cases h),(fun e s b h=>by cases h;infer_instance),(fun x h=>by cases h),(fun v h=>by cases h;infer_instance)⟩
def q52:TyC:={ agg:=false,sz:=1,desc:=some (.map 9 4),zero:=some (.map none) }
theorem qyn:TyC.Ok Try.prog 134 q52:=⟨(fun h=>inferInstance),(fun f off a s h=>by cases h),(fun e s b h=>by cases h),(fun x h=>by cases h;infer_instance),(fun v h=>by cases h;infer_instance)⟩
def q51:TyC:={ agg:=false,sz:=1,zero:=some (.nilFunc) }
theorem qym:TyC.Ok Try.prog 137 q51:=⟨(fun h=>inferInstance),(fun f off a s h=>by cases h),(fun e s b h=>by cases h),(fun x h=>by cases h),(fun v h=>by cases h;infer_instance)⟩
def q50:TyC:={ agg:=false,sz:=1,desc:=some (.int .u64),zero:=some (.int .u64 0) }
theorem qyl:TyC.Ok Try.prog 142 q50:=⟨(fun h=>inferInstance),(fun f off a s h=>by cases h),(fun e s b h=>by cases h),(fun x h=>by cases h;infer_instance),(fun v h=>by cases h;infer_instance)⟩
def q5z:TyC:={ agg:=true,sz:=3,zero:=some (.agg #[.int .i64 0,.int .i64 0,.int .i64 0]) }
theorem qyk:TyC.Ok Try.prog 144 q5z:=⟨(fun h=>inferInstance),(fun f off a s h=>by cases h),(fun e s b h=>by cases h),(fun x h=>by cases h),(fun v h=>by cases h;infer_instance)⟩
def q5y:TyC:={ agg:=false,sz:=1,desc:=some (.int .i64),zero:=some (.int .i64 0) }
theorem qyj:TyC.Ok Try.prog 148 q5y:=⟨(fun h=>inferInstance),(fun f off a s h=>by cases h),(fun e s b h=>by cases h),(fun x h=>by cases h;infer_instance),(fun v h=>by cases h;infer_instance)⟩
def q5x:TyC:={ agg:=false,sz:=1,desc:=some (.int .u32),zero:=some (.int .u32 0) }
theorem qyi:TyC.Ok Try.prog 155 q5x:=⟨(fun h=>inferInstance),(fun f off a s h=>by cases h),(fun e s b h=>by cases h),(fun x h=>by cases h;infer_instance),(fun v h=>by cases h;infer_instance)⟩
def q5w:TyC:={ agg:=false,sz:=1,desc:=some (.int .u64),zero:=some (.int .u64 0) }
theorem qyh:TyC.Ok Try.prog 157 q5w:=⟨(fun h=>inferInstance),(fun f off a s h=>by cases h),(fun e s b h=>by cases h),(fun x h=>by cases h;infer_instance),(fun v h=>by cases h;infer_instance)⟩
def q5v:TyC:={ agg:=false,sz:=1,zero:=some (.pointer none) }
theorem qyg:TyC.Ok Try.prog 161 q5v:=⟨(fun h=>inferInstance),(fun f off a s h=>by cases h),(fun e s b h=>by cases h),(fun x h=>by cases h),(fun v h=>by cases h;infer_instance)⟩
def zfs(t:TypeId):TyC:=(bif Nat.blt t 58 then(bif Nat.blt t 30 then(bif Nat.blt t 23 then(bif Nat.blt t 4 then(bif Nat.blt t 3 then(bif Nat.beq t 2 then zfx else {})else(bif Nat.beq t 3 then zfw else {}))else(bif Nat.blt t 5 then(bif Nat.beq t 4 then zfv else {})else(bif Nat.blt t 9 then(bif Nat.beq t 5 then zfu else {})else(bif Nat.beq t 9 then zft else {}))))else(bif Nat.blt t 26 then(bif Nat.blt t 24 then(bif Nat.beq t 23 then zbi else {})else(bif Nat.blt t 25 then(bif Nat.beq t 24 then zbh else {})else(bif Nat.beq t 25 then zbg else {})))else(bif Nat.blt t 27 then(bif Nat.beq t 26 then zbf else {})else(bif Nat.blt t 28 then(bif Nat.beq t 27 then zbe else {})else(bif Nat.beq t 28 then zbd else {})))))else(bif Nat.blt t 44 then(bif Nat.blt t 37 then(bif Nat.blt t 36 then(bif Nat.beq t 30 then zbc else {})else(bif Nat.beq t 36 then zbb else {}))else(bif Nat.blt t 39 then(bif Nat.beq t 37 then zba else {})else(bif Nat.blt t 41 then(bif Nat.beq t 39 then za9 else {})else(bif Nat.beq t 41 then za8 else {}))))else(bif Nat.blt t 53 then(bif Nat.blt t 46 then(bif Nat.beq t 44 then za7 else {})else(bif Nat.blt t 51 then(bif Nat.beq t 46 then za6 else {})else(bif Nat.beq t 51 then za5 else {})))else(bif Nat.blt t 55 then(bif Nat.beq t 53 then za4 else {})else(bif Nat.blt t 57 then(bif Nat.beq t 55 then za3 else {})else(bif Nat.beq t 57 then za2 else {}))))))else(bif Nat.blt t 119 then(bif Nat.blt t 82 then(bif Nat.blt t 64 then(bif Nat.blt t 59 then(bif Nat.beq t 58 then za1 else {})else(bif Nat.beq t 59 then za0 else {}))else(bif Nat.blt t 67 then(bif Nat.beq t 64 then zaz else {})else(bif Nat.blt t 69 then(bif Nat.beq t 67 then zay else {})else(bif Nat.beq t 69 then zax else {}))))else(bif Nat.blt t 107 then(bif Nat.blt t 91 then(bif Nat.beq t 82 then zaw else {})else(bif Nat.blt t 105 then(bif Nat.beq t 91 then zav else {})else(bif Nat.beq t 105 then q59 else {})))else(bif Nat.blt t 113 then(bif Nat.beq t 107 then q58 else {})else(bif Nat.blt t 117 then(bif Nat.beq t 113 then q57 else {})else(bif Nat.beq t 117 then q56 else {})))))else(bif Nat.blt t 142 then(bif Nat.blt t 133 then(bif Nat.blt t 120 then(bif Nat.beq t 119 then q55 else {})else(bif Nat.beq t 120 then q54 else {}))else(bif Nat.blt t 134 then(bif Nat.beq t 133 then q53 else {})else(bif Nat.blt t 137 then(bif Nat.beq t 134 then q52 else {})else(bif Nat.beq t 137 then q51 else {}))))else(bif Nat.blt t 155 then(bif Nat.blt t 144 then(bif Nat.beq t 142 then q50 else {})else(bif Nat.blt t 148 then(bif Nat.beq t 144 then q5z else {})else(bif Nat.beq t 148 then q5y else {})))else(bif Nat.blt t 157 then(bif Nat.beq t 155 then q5x else {})else(bif Nat.blt t 161 then(bif Nat.beq t 157 then q5w else {})else(bif Nat.beq t 161 then q5v else {})))))))
theorem q7h(t:TypeId):TyC.Ok Try.prog t (zfs t):=(qbr (qbr (qbr (qbr (qbr (qbo q7m) (qbo q7l)) (qbr (qbo q7k) (qbr (qbo q7j) (qbo q7i)))) (qbr (qbr (qbo q3x) (qbr (qbo q3w) (qbo q3v))) (qbr (qbo q3u) (qbr (qbo q3t) (qbo q3s))))) (qbr (qbr (qbr (qbo q3r) (qbo q3q)) (qbr (qbo q3p) (qbr (qbo q3o) (qbo q3n)))) (qbr (qbr (qbo q3m) (qbr (qbo q3l) (qbo q3k))) (qbr (qbo q3j) (qbr (qbo q3i) (qbo q3h)))))) (qbr (qbr (qbr (qbr (qbo q3g) (qbo q3f)) (qbr (qbo q3e) (qbr (qbo q3d) (qbo q3c)))) (qbr (qbr (qbo q3b) (qbr (qbo q3a) (qbo qyu))) (qbr (qbo qyt) (qbr (qbo qys) (qbo qyr))))) (qbr (qbr (qbr (qbo qyq) (qbo qyp)) (qbr (qbo qyo) (qbr (qbo qyn) (qbo qym)))) (qbr (qbr (qbo qyl) (qbr (qbo qyk) (qbo qyj))) (qbr (qbo qyi) (qbr (qbo qyh) (qbo qyg)))))))
instance:Tys Try.prog:=⟨zfs,q7h⟩
instance:qui Try.prog:=⟨by kernel_rfl⟩
end Go.Abs
namespace Go.Abs
open Go
structure Typ where
 width:Int
 signed:Bool
deriving DecidableEq
def Typ.z:Typ:=⟨0,false⟩
def Typ.e(x:Typ):Nat->T
 |0=>.int .i64 x.width
 |1=>.bool x.signed
 |_=>.any
def Fn.z:Fn:=⟨ByteArray.empty,[],[],[],[],[]⟩
inductive Ow(α β:Type) where
 |own (l:List α)
 |fz (l:List β)
inductive Gn(α:Type) where
 |own (l:List α)
 |gone
def Sp.gnL{α:Type}:Gn α->Option (List α)
 |.own l=>some l
 |.gone=>none
def Sp.qgr{α β:Type}:Ow α β->Option (List α)
 |.own l=>some l
 |.fz _=>none
inductive Ox(α β:Type) where
 |own (l:List α)
 |fz (l:List β)
 |gone
def Ow.ox{α β:Type}:Ow α β->Ox α β
 |.own l=>.own l
 |.fz l=>.fz l
def Sp.qjh{α β:Type}:Ox α β->Option (List α)
 |.own l=>some l
 |_=>none
def Sp.q95{α β:Type}:Ox α β->Option (List β)
 |.fz l=>some l
 |_=>none
def Sp.qr9{α β:Type}:Ow α β->Option (List β)
 |.own _=>none
 |.fz l=>some l
structure qag where
 op:Int
 dest:Int
 args:(Ow Int Int)
 num:Int
 mem:Int
def qag.z:qag:=⟨0,0,(.fz []),0,0⟩
structure qaj where
 block:Int
 args:(Ow Int Int)
def qaj.z:qaj:=⟨0,(.fz [])⟩
structure qaq where
 kind:Int
 cond:Int
 to:(Ow qaj Edge)
 qa4:(Ow Int Int)
def qaq.z:qaq:=⟨0,0,(.fz []),(.fz [])⟩
structure qaa where
 params:(Ow Int Int)
 insts:(Ow qag qau)
 term:qaq
 qar:Int
 qba:Int
 line:Int
def qaa.z:qaa:=⟨(.fz []),(.fz []),qaq.z,0,0,0⟩
structure LsI where
 v:(Gn Int)
def LsI.z:LsI:=⟨(.own [])⟩
structure qat where
 kind:Int
 cond:Int
 to:(Ox qaj Edge)
 qa4:(Ox Int Int)
def qat.z:qat:=⟨0,0,(.fz []),(.fz [])⟩
structure qac where
 params:(Ox Int Int)
 insts:(Ox qag qau)
 term:qat
 qar:Int
 qba:Int
 line:Int
def qac.z:qac:=⟨(.fz []),(.fz []),qat.z,0,0,0⟩
@[reducible] def suD:Nat->Type
 |0=>qau
 |1=>Edge
 |2=>Term
 |3=>Block
 |4=>Arr
 |5=>qbp
 |6=>Fn
 |7=>Typ
 |8=>qag
 |9=>qaj
 |10=>qaq
 |11=>qaa
 |12=>LsI
 |13=>qat
 |14=>qac
 |_=>Unit
def suZ:(i:Nat)->suD i
 |0=>qau.z
 |1=>Edge.z
 |2=>Term.z
 |3=>Block.z
 |4=>Arr.z
 |5=>qbp.z
 |6=>Fn.z
 |7=>Typ.z
 |8=>qag.z
 |9=>qaj.z
 |10=>qaq.z
 |11=>qaa.z
 |12=>LsI.z
 |13=>qat.z
 |14=>qac.z
 |_+15=>()
def zgg:Nat->Nat
 |0=>5
 |1=>2
 |2=>4
 |3=>9
 |4=>5
 |5=>3
 |6=>6
 |7=>2
 |8=>5
 |9=>2
 |10=>4
 |11=>9
 |12=>1
 |13=>4
 |14=>9
 |_=>0
def zei:(i:Nat)->suD i->Nat->T
 |0,x=>qau.e x
 |1,x=>Edge.e x
 |2,x=>Term.e x
 |3,x=>Block.e x
 |4,x=>Arr.e x
 |5,x=>qbp.e x
 |6,x=>Fn.e x
 |7,x=>Typ.e x
 |_+8,_=>fun _=>.any
instance:SU:=⟨suD,suZ,zgg,zei⟩
theorem qo5:∀(D:Nat->Type) (i:Nat) (x:D i),qt2 D i i x=some x
 |D,0,x=>rfl
 |D,i+1,x=>qo5 (fun n=>D (n+1)) i x
theorem qax:∀(F:Type->Type) (N:Ty) (x:F N.D),qbt F N N x=some x
 |F,.bool,x=>rfl
 |F,.int k,x=>by cases k<;>rfl
 |F,.str,x=>rfl
 |F,.st i,x=>qo5 (fun i=>F (SU.D i)) i x
 |F,.sl e,x=>qax (fun X=>F (List X)) e x
 |F,.ol t e,x=>by simp only[qbt,zhc,cond_true];exact qax (fun X=>F (List X)) e x
def qcg:(N:Ty)->EV->Option N.D
 |.bool,.b y=>some y
 |.int k,.i k' n=>bif qdo k k' then some n else none
 |.str,.s y=>some y
 |.sl e,.fz e' l=>qbt List e' e l
 |.sl e,.qby=>some []
 |_,_=>none
def q5c:(N:Ty)->N.D->EV
 |.bool,x=>.b x
 |.int k,x=>.i k x
 |.str,x=>.s x
 |.sl e,l=>.fz e l
 |.st i,x=>.un
 |.ol _ _,x=>.un
theorem qal{N:Ty}{v:EV}{y:N.D}(h:qcg N v=some y):∀len,Wk (toV len v) (toV len (q5c N y)):=fun len=>by
 cases N with
 |bool=>cases v<;>simp only[qcg]at h<;>first|(cases h;done)|(injection h with h;subst h;exact Wk.refl _)
 |int k=>
  cases v<;>simp only[qcg]at h<;>try(cases h;done)
  rename_i k' n;cases hk:qdo k k' with
  |false=>rw[hk]at h;cases h
  |true=>
   have:=qcx hk;subst this;rw[hk]at h;simp only[cond_true]at h;injection h with h;subst h;exact Wk.refl _
 |str=>cases v<;>simp only[qcg]at h<;>first|(cases h;done)|(injection h with h;subst h;exact Wk.refl _)
 |st i=>simp only[q5c,toV];exact Wk.un _
 |ol _ _=>simp only[q5c,toV];exact Wk.un _
 |sl e=>
  cases v<;>simp only[qcg]at h<;>try(cases h;done)
  ·obtain⟨rfl,h⟩:=qa0 h;obtain rfl:=eq_of_heq h;exact Wk.refl _
  ·injection h with h;subst h;simp only[q5c,toV,qx0];exact Wk.qby _ _
def qau.c(x:qau):Nat->EV
 |0=>.i .i64 (x.op)
 |1=>.i .i64 (x.dest)
 |2=>.fz (.int .i64) (x.args)
 |3=>.i .u64 (x.num)
 |4=>.i .i64 (x.mem)
 |_=>.un
def qau.s(x:qau)(j:Nat)(v:EV):Option qau:=match j with
 |0=>match qcg (.int .i64) v with
  |some y=>some { x with op:=y }
  |none=>none
 |1=>match qcg (.int .i64) v with
  |some y=>some { x with dest:=y }
  |none=>none
 |2=>match qcg (.sl (.int .i64)) v with
  |some y=>some { x with args:=y }
  |none=>none
 |3=>match qcg (.int .u64) v with
  |some y=>some { x with num:=y }
  |none=>none
 |4=>match qcg (.int .i64) v with
  |some y=>some { x with mem:=y }
  |none=>none
 |_=>none
def qau.m:List EV->Option qau
 |[a0,a1,a2,a3,a4]=>match qcg (.int .i64) a0,qcg (.int .i64) a1,qcg (.sl (.int .i64)) a2,qcg (.int .u64) a3,qcg (.int .i64) a4 with
  |some y0,some y1,some y2,some y3,some y4=>some ⟨y0,y1,y2,y3,y4⟩
  |_,_,_,_,_=>none
 |_=>none
theorem qau.qig(x:qau)(len:Len):∀j,j<5->toV len (qau.c x j)=.t (qau.e x j)
 |0,_|1,_|2,_|3,_|4,_=>by simp only[qau.c,toV];rfl
 |n+5,h=>absurd h (by omega)
theorem qau.qdu(x:qau):∀j,(qau.c x j).dat=true
 |0|1|2|3|4=>rfl
 |n+5=>rfl
theorem qau.qgp(x:qau)(j:Nat)(v:EV)(y:qau)(h:qau.s x j v=some y):(∀len,Wk (toV len v) (toV len (qau.c y j)))/\∀j',j'≠j->qau.c y j'=qau.c x j':=by
 match j with
 |0=>
  simp only[qau.s]at h;split at h
  ·rename_i a ha;injection h with h;subst h;refine⟨qal ha,fun j' hj=>?_⟩
   match j',hj with
   |0,hj=>exact absurd rfl hj
   |1,hj|2,hj|3,hj|4,hj=>exact rfl
   |n+5,_=>rfl
  ·cases h
 |1=>
  simp only[qau.s]at h;split at h
  ·rename_i a ha;injection h with h;subst h;refine⟨qal ha,fun j' hj=>?_⟩
   match j',hj with
   |0,hj=>exact rfl
   |1,hj=>exact absurd rfl hj
   |2,hj|3,hj|4,hj=>exact rfl
   |n+5,_=>rfl
  ·cases h
 |2=>
  simp only[qau.s]at h;split at h
  ·rename_i a ha;injection h with h;subst h;refine⟨qal ha,fun j' hj=>?_⟩
   match j',hj with
   |0,hj|1,hj=>exact rfl
   |2,hj=>exact absurd rfl hj
   |3,hj|4,hj=>exact rfl
   |n+5,_=>rfl
  ·cases h
 |3=>
  simp only[qau.s]at h;split at h
  ·rename_i a ha;injection h with h;subst h;refine⟨qal ha,fun j' hj=>?_⟩
   match j',hj with
   |0,hj|1,hj|2,hj=>exact rfl
   |3,hj=>exact absurd rfl hj
   |4,hj=>exact rfl
   |n+5,_=>rfl
  ·cases h
 |4=>
  simp only[qau.s]at h;split at h
  ·rename_i a ha;injection h with h;subst h;refine⟨qal ha,fun j' hj=>?_⟩
   match j',hj with
   |0,hj|1,hj|2,hj|3,hj=>exact rfl
   |4,hj=>exact absurd rfl hj
   |n+5,_=>rfl
  ·cases h
 |n+5=>simp[qau.s]at h
theorem qau.qmf(l:List EV)(y:qau)(h:qau.m l=some y):l.length=5/\∀j,j<5->∀len,Wk (qa3 len l j) (toV len (qau.c y j)):=by
 unfold qau.m at h;split at h
 ·split at h
  ·rename_i h0 h1 h2 h3 h4;injection h with h;subst h;refine⟨rfl,fun j hj len=>?_⟩
   match j,hj with
   |0,_=>simp only[qa3];exact qal h0 len
   |1,_=>simp only[qa3];exact qal h1 len
   |2,_=>simp only[qa3];exact qal h2 len
   |3,_=>simp only[qa3];exact qal h3 len
   |4,_=>simp only[qa3];exact qal h4 len
   |n+5,h=>exact absurd h (by omega)
  ·cases h
 ·cases h
def Edge.c(x:Edge):Nat->EV
 |0=>.i .i64 (x.block)
 |1=>.fz (.int .i64) (x.args)
 |_=>.un
def Edge.s(x:Edge)(j:Nat)(v:EV):Option Edge:=match j with
 |0=>match qcg (.int .i64) v with
  |some y=>some { x with block:=y }
  |none=>none
 |1=>match qcg (.sl (.int .i64)) v with
  |some y=>some { x with args:=y }
  |none=>none
 |_=>none
def Edge.m:List EV->Option Edge
 |[a0,a1]=>match qcg (.int .i64) a0,qcg (.sl (.int .i64)) a1 with
  |some y0,some y1=>some ⟨y0,y1⟩
  |_,_=>none
 |_=>none
theorem Edge.qig(x:Edge)(len:Len):∀j,j<2->toV len (Edge.c x j)=.t (Edge.e x j)
 |0,_|1,_=>by simp only[Edge.c,toV];rfl
 |n+2,h=>absurd h (by omega)
theorem Edge.qdu(x:Edge):∀j,(Edge.c x j).dat=true
 |0|1=>rfl
 |n+2=>rfl
theorem Edge.qgp(x:Edge)(j:Nat)(v:EV)(y:Edge)(h:Edge.s x j v=some y):(∀len,Wk (toV len v) (toV len (Edge.c y j)))/\∀j',j'≠j->Edge.c y j'=Edge.c x j':=by
 match j with
 |0=>
  simp only[Edge.s]at h;split at h
  ·rename_i a ha;injection h with h;subst h;refine⟨qal ha,fun j' hj=>?_⟩
   match j',hj with
   |0,hj=>exact absurd rfl hj
   |1,hj=>exact rfl
   |n+2,_=>rfl
  ·cases h
 |1=>
  simp only[Edge.s]at h;split at h
  ·rename_i a ha;injection h with h;subst h;refine⟨qal ha,fun j' hj=>?_⟩
   match j',hj with
   |0,hj=>exact rfl
   |1,hj=>exact absurd rfl hj
   |n+2,_=>rfl
  ·cases h
 |n+2=>simp[Edge.s]at h
theorem Edge.qmf(l:List EV)(y:Edge)(h:Edge.m l=some y):l.length=2/\∀j,j<2->∀len,Wk (qa3 len l j) (toV len (Edge.c y j)):=by
 unfold Edge.m at h;split at h
 ·split at h
  ·rename_i h0 h1;injection h with h;subst h;refine⟨rfl,fun j hj len=>?_⟩
   match j,hj with
   |0,_=>simp only[qa3];exact qal h0 len
   |1,_=>simp only[qa3];exact qal h1 len
   |n+2,h=>exact absurd h (by omega)
  ·cases h
 ·cases h
def Term.c(x:Term):Nat->EV
 |0=>.i .i64 (x.kind)
 |1=>.i .i64 (x.cond)
 |2=>.fz (.st 1) (x.to)
 |3=>.fz (.int .i64) (x.qa4)
 |_=>.un
def Term.s(x:Term)(j:Nat)(v:EV):Option Term:=match j with
 |0=>match qcg (.int .i64) v with
  |some y=>some { x with kind:=y }
  |none=>none
 |1=>match qcg (.int .i64) v with
  |some y=>some { x with cond:=y }
  |none=>none
 |2=>match qcg (.sl (.st 1)) v with
  |some y=>some { x with to:=y }
  |none=>none
 |3=>match qcg (.sl (.int .i64)) v with
  |some y=>some { x with qa4:=y }
  |none=>none
 |_=>none
def Term.m:List EV->Option Term
 |[a0,a1,a2,a3]=>match qcg (.int .i64) a0,qcg (.int .i64) a1,qcg (.sl (.st 1)) a2,qcg (.sl (.int .i64)) a3 with
  |some y0,some y1,some y2,some y3=>some ⟨y0,y1,y2,y3⟩
  |_,_,_,_=>none
 |_=>none
theorem Term.qig(x:Term)(len:Len):∀j,j<4->toV len (Term.c x j)=.t (Term.e x j)
 |0,_|1,_|2,_|3,_=>by simp only[Term.c,toV];rfl
 |n+4,h=>absurd h (by omega)
theorem Term.qdu(x:Term):∀j,(Term.c x j).dat=true
 |0|1|2|3=>rfl
 |n+4=>rfl
theorem Term.qgp(x:Term)(j:Nat)(v:EV)(y:Term)(h:Term.s x j v=some y):(∀len,Wk (toV len v) (toV len (Term.c y j)))/\∀j',j'≠j->Term.c y j'=Term.c x j':=by
 match j with
 |0=>
  simp only[Term.s]at h;split at h
  ·rename_i a ha;injection h with h;subst h;refine⟨qal ha,fun j' hj=>?_⟩
   match j',hj with
   |0,hj=>exact absurd rfl hj
   |1,hj|2,hj|3,hj=>exact rfl
   |n+4,_=>rfl
  ·cases h
 |1=>
  simp only[Term.s]at h;split at h
  ·rename_i a ha;injection h with h;subst h;refine⟨qal ha,fun j' hj=>?_⟩
   match j',hj with
   |0,hj=>exact rfl
   |1,hj=>exact absurd rfl hj
   |2,hj|3,hj=>exact rfl
   |n+4,_=>rfl
  ·cases h
 |2=>
  simp only[Term.s]at h;split at h
  ·rename_i a ha;injection h with h;subst h;refine⟨qal ha,fun j' hj=>?_⟩
   match j',hj with
   |0,hj|1,hj=>exact rfl
   |2,hj=>exact absurd rfl hj
   |3,hj=>exact rfl
   |n+4,_=>rfl
  ·cases h
 |3=>
  simp only[Term.s]at h;split at h
  ·rename_i a ha;injection h with h;subst h;refine⟨qal ha,fun j' hj=>?_⟩
   match j',hj with
   |0,hj|1,hj|2,hj=>exact rfl
   |3,hj=>exact absurd rfl hj
   |n+4,_=>rfl
  ·cases h
 |n+4=>simp[Term.s]at h
theorem Term.qmf(l:List EV)(y:Term)(h:Term.m l=some y):l.length=4/\∀j,j<4->∀len,Wk (qa3 len l j) (toV len (Term.c y j)):=by
 unfold Term.m at h;split at h
 ·split at h
  ·rename_i h0 h1 h2 h3;injection h with h;subst h;refine⟨rfl,fun j hj len=>?_⟩
   match j,hj with
   |0,_=>simp only[qa3];exact qal h0 len
   |1,_=>simp only[qa3];exact qal h1 len
   |2,_=>simp only[qa3];exact qal h2 len
   |3,_=>simp only[qa3];exact qal h3 len
   |n+4,h=>exact absurd h (by omega)
  ·cases h
 ·cases h
def Block.c(x:Block):Nat->EV
 |0=>.fz (.int .i64) (x.params)
 |1=>.fz (.st 0) (x.insts)
 |2=>.i .i64 (x.term.kind)
 |3=>.i .i64 (x.term.cond)
 |4=>.fz (.st 1) (x.term.to)
 |5=>.fz (.int .i64) (x.term.qa4)
 |6=>.i .i64 (x.qar)
 |7=>.i .i64 (x.qba)
 |8=>.i .i64 (x.line)
 |_=>.un
def Block.s(x:Block)(j:Nat)(v:EV):Option Block:=match j with
 |0=>match qcg (.sl (.int .i64)) v with
  |some y=>some { x with params:=y }
  |none=>none
 |1=>match qcg (.sl (.st 0)) v with
  |some y=>some { x with insts:=y }
  |none=>none
 |2=>match qcg (.int .i64) v with
  |some y=>some { x with term:={ x.term with kind:=y } }
  |none=>none
 |3=>match qcg (.int .i64) v with
  |some y=>some { x with term:={ x.term with cond:=y } }
  |none=>none
 |4=>match qcg (.sl (.st 1)) v with
  |some y=>some { x with term:={ x.term with to:=y } }
  |none=>none
 |5=>match qcg (.sl (.int .i64)) v with
  |some y=>some { x with term:={ x.term with qa4:=y } }
  |none=>none
 |6=>match qcg (.int .i64) v with
  |some y=>some { x with qar:=y }
  |none=>none
 |7=>match qcg (.int .i64) v with
  |some y=>some { x with qba:=y }
  |none=>none
 |8=>match qcg (.int .i64) v with
  |some y=>some { x with line:=y }
  |none=>none
 |_=>none
def Block.m:List EV->Option Block
 |[a0,a1,a2,a3,a4,a5,a6,a7,a8]=>match qcg (.sl (.int .i64)) a0,qcg (.sl (.st 0)) a1,qcg (.int .i64) a2,qcg (.int .i64) a3,qcg (.sl (.st 1)) a4,qcg (.sl (.int .i64)) a5,qcg (.int .i64) a6,qcg (.int .i64) a7,qcg (.int .i64) a8 with
  |some y0,some y1,some y2,some y3,some y4,some y5,some y6,some y7,some y8=>some ⟨y0,y1,⟨y2,y3,y4,y5⟩,y6,y7,y8⟩
  |_,_,_,_,_,_,_,_,_=>none
 |_=>none
theorem Block.qig(x:Block)(len:Len):∀j,j<9->toV len (Block.c x j)=.t (Block.e x j)
 |0,_|1,_|2,_|3,_|4,_|5,_|6,_|7,_|8,_=>by simp only[Block.c,toV];rfl
 |n+9,h=>absurd h (by omega)
theorem Block.qdu(x:Block):∀j,(Block.c x j).dat=true
 |0|1|2|3|4|5|6|7|8=>rfl
 |n+9=>rfl
theorem Block.qgp(x:Block)(j:Nat)(v:EV)(y:Block)(h:Block.s x j v=some y):(∀len,Wk (toV len v) (toV len (Block.c y j)))/\∀j',j'≠j->Block.c y j'=Block.c x j':=by
 match j with
 |0=>
  simp only[Block.s]at h;split at h
  ·rename_i a ha;injection h with h;subst h;refine⟨qal ha,fun j' hj=>?_⟩
   match j',hj with
   |0,hj=>exact absurd rfl hj
   |1,hj|2,hj|3,hj|4,hj|5,hj|6,hj|7,hj|8,hj=>exact rfl
   |n+9,_=>rfl
  ·cases h
 |1=>
  simp only[Block.s]at h;split at h
  ·rename_i a ha;injection h with h;subst h;refine⟨qal ha,fun j' hj=>?_⟩
   match j',hj with
   |0,hj=>exact rfl
   |1,hj=>exact absurd rfl hj
   |2,hj|3,hj|4,hj|5,hj|6,hj|7,hj|8,hj=>exact rfl
   |n+9,_=>rfl
  ·cases h
 |2=>
  simp only[Block.s]at h;split at h
  ·rename_i a ha;injection h with h;subst h;refine⟨qal ha,fun j' hj=>?_⟩
   match j',hj with
   |0,hj|1,hj=>exact rfl
   |2,hj=>exact absurd rfl hj
   |3,hj|4,hj|5,hj|6,hj|7,hj|8,hj=>exact rfl
   |n+9,_=>rfl
  ·cases h
 |3=>
  simp only[Block.s]at h;split at h
  ·rename_i a ha;injection h with h;subst h;refine⟨qal ha,fun j' hj=>?_⟩
   match j',hj with
   |0,hj|1,hj|2,hj=>exact rfl
   |3,hj=>exact absurd rfl hj
   |4,hj|5,hj|6,hj|7,hj|8,hj=>exact rfl
   |n+9,_=>rfl
  ·cases h
 |4=>
  simp only[Block.s]at h;split at h
  ·rename_i a ha;injection h with h;subst h;refine⟨qal ha,fun j' hj=>?_⟩
   match j',hj with
   |0,hj|1,hj|2,hj|3,hj=>exact rfl
   |4,hj=>exact absurd rfl hj
   |5,hj|6,hj|7,hj|8,hj=>exact rfl
   |n+9,_=>rfl
  ·cases h
 |5=>
  simp only[Block.s]at h;split at h
  ·rename_i a ha;injection h with h;subst h;refine⟨qal ha,fun j' hj=>?_⟩
   match j',hj with
   |0,hj|1,hj|2,hj|3,hj|4,hj=>exact rfl
   |5,hj=>exact absurd rfl hj
   |6,hj|7,hj|8,hj=>exact rfl
   |n+9,_=>rfl
  ·cases h
 |6=>
  simp only[Block.s]at h;split at h
  ·rename_i a ha;injection h with h;subst h;refine⟨qal ha,fun j' hj=>?_⟩
   match j',hj with
   |0,hj|1,hj|2,hj|3,hj|4,hj|5,hj=>exact rfl
   |6,hj=>exact absurd rfl hj
   |7,hj|8,hj=>exact rfl
   |n+9,_=>rfl
  ·cases h
 |7=>
  simp only[Block.s]at h;split at h
  ·rename_i a ha;injection h with h;subst h;refine⟨qal ha,fun j' hj=>?_⟩
   match j',hj with
   |0,hj|1,hj|2,hj|3,hj|4,hj|5,hj|6,hj=>exact rfl
   |7,hj=>exact absurd rfl hj
   |8,hj=>exact rfl
   |n+9,_=>rfl
  ·cases h
 |8=>
  simp only[Block.s]at h;split at h
  ·rename_i a ha;injection h with h;subst h;refine⟨qal ha,fun j' hj=>?_⟩
   match j',hj with
   |0,hj|1,hj|2,hj|3,hj|4,hj|5,hj|6,hj|7,hj=>exact rfl
   |8,hj=>exact absurd rfl hj
   |n+9,_=>rfl
  ·cases h
 |n+9=>simp[Block.s]at h
theorem Block.qmf(l:List EV)(y:Block)(h:Block.m l=some y):l.length=9/\∀j,j<9->∀len,Wk (qa3 len l j) (toV len (Block.c y j)):=by
 unfold Block.m at h;split at h
 ·split at h
  ·rename_i h0 h1 h2 h3 h4 h5 h6 h7 h8;injection h with h;subst h;refine⟨rfl,fun j hj len=>?_⟩
   match j,hj with
   |0,_=>simp only[qa3];exact qal h0 len
   |1,_=>simp only[qa3];exact qal h1 len
   |2,_=>simp only[qa3];exact qal h2 len
   |3,_=>simp only[qa3];exact qal h3 len
   |4,_=>simp only[qa3];exact qal h4 len
   |5,_=>simp only[qa3];exact qal h5 len
   |6,_=>simp only[qa3];exact qal h6 len
   |7,_=>simp only[qa3];exact qal h7 len
   |8,_=>simp only[qa3];exact qal h8 len
   |n+9,h=>exact absurd h (by omega)
  ·cases h
 ·cases h
def Arr.c(x:Arr):Nat->EV
 |0=>.s (x.name)
 |1=>.i .i64 (x.width)
 |2=>.i .i64 (x.len)
 |3=>.i .i64 (x.kind)
 |4=>.i .i64 (x.factor)
 |_=>.un
def Arr.s(x:Arr)(j:Nat)(v:EV):Option Arr:=match j with
 |0=>match qcg (.str) v with
  |some y=>some { x with name:=y }
  |none=>none
 |1=>match qcg (.int .i64) v with
  |some y=>some { x with width:=y }
  |none=>none
 |2=>match qcg (.int .i64) v with
  |some y=>some { x with len:=y }
  |none=>none
 |3=>match qcg (.int .i64) v with
  |some y=>some { x with kind:=y }
  |none=>none
 |4=>match qcg (.int .i64) v with
  |some y=>some { x with factor:=y }
  |none=>none
 |_=>none
def Arr.m:List EV->Option Arr
 |[a0,a1,a2,a3,a4]=>match qcg (.str) a0,qcg (.int .i64) a1,qcg (.int .i64) a2,qcg (.int .i64) a3,qcg (.int .i64) a4 with
  |some y0,some y1,some y2,some y3,some y4=>some ⟨y0,y1,y2,y3,y4⟩
  |_,_,_,_,_=>none
 |_=>none
theorem Arr.qig(x:Arr)(len:Len):∀j,j<5->toV len (Arr.c x j)=.t (Arr.e x j)
 |0,_|1,_|2,_|3,_|4,_=>by simp only[Arr.c,toV];rfl
 |n+5,h=>absurd h (by omega)
theorem Arr.qdu(x:Arr):∀j,(Arr.c x j).dat=true
 |0|1|2|3|4=>rfl
 |n+5=>rfl
theorem Arr.qgp(x:Arr)(j:Nat)(v:EV)(y:Arr)(h:Arr.s x j v=some y):(∀len,Wk (toV len v) (toV len (Arr.c y j)))/\∀j',j'≠j->Arr.c y j'=Arr.c x j':=by
 match j with
 |0=>
  simp only[Arr.s]at h;split at h
  ·rename_i a ha;injection h with h;subst h;refine⟨qal ha,fun j' hj=>?_⟩
   match j',hj with
   |0,hj=>exact absurd rfl hj
   |1,hj|2,hj|3,hj|4,hj=>exact rfl
   |n+5,_=>rfl
  ·cases h
 |1=>
  simp only[Arr.s]at h;split at h
  ·rename_i a ha;injection h with h;subst h;refine⟨qal ha,fun j' hj=>?_⟩
   match j',hj with
   |0,hj=>exact rfl
   |1,hj=>exact absurd rfl hj
   |2,hj|3,hj|4,hj=>exact rfl
   |n+5,_=>rfl
  ·cases h
 |2=>
  simp only[Arr.s]at h;split at h
  ·rename_i a ha;injection h with h;subst h;refine⟨qal ha,fun j' hj=>?_⟩
   match j',hj with
   |0,hj|1,hj=>exact rfl
   |2,hj=>exact absurd rfl hj
   |3,hj|4,hj=>exact rfl
   |n+5,_=>rfl
  ·cases h
 |3=>
  simp only[Arr.s]at h;split at h
  ·rename_i a ha;injection h with h;subst h;refine⟨qal ha,fun j' hj=>?_⟩
   match j',hj with
   |0,hj|1,hj|2,hj=>exact rfl
   |3,hj=>exact absurd rfl hj
   |4,hj=>exact rfl
   |n+5,_=>rfl
  ·cases h
 |4=>
  simp only[Arr.s]at h;split at h
  ·rename_i a ha;injection h with h;subst h;refine⟨qal ha,fun j' hj=>?_⟩
   match j',hj with
   |0,hj|1,hj|2,hj|3,hj=>exact rfl
   |4,hj=>exact absurd rfl hj
   |n+5,_=>rfl
  ·cases h
 |n+5=>simp[Arr.s]at h
theorem Arr.qmf(l:List EV)(y:Arr)(h:Arr.m l=some y):l.length=5/\∀j,j<5->∀len,Wk (qa3 len l j) (toV len (Arr.c y j)):=by
 unfold Arr.m at h;split at h
 ·split at h
  ·rename_i h0 h1 h2 h3 h4;injection h with h;subst h;refine⟨rfl,fun j hj len=>?_⟩
   match j,hj with
   |0,_=>simp only[qa3];exact qal h0 len
   |1,_=>simp only[qa3];exact qal h1 len
   |2,_=>simp only[qa3];exact qal h2 len
   |3,_=>simp only[qa3];exact qal h3 len
   |4,_=>simp only[qa3];exact qal h4 len
   |n+5,h=>exact absurd h (by omega)
  ·cases h
 ·cases h
def qbp.c(x:qbp):Nat->EV
 |0=>.s (x.name)
 |1=>.i .i64 (x.width)
 |2=>.b (x.out)
 |_=>.un
def qbp.s(x:qbp)(j:Nat)(v:EV):Option qbp:=match j with
 |0=>match qcg (.str) v with
  |some y=>some { x with name:=y }
  |none=>none
 |1=>match qcg (.int .i64) v with
  |some y=>some { x with width:=y }
  |none=>none
 |2=>match qcg (.bool) v with
  |some y=>some { x with out:=y }
  |none=>none
 |_=>none
def qbp.m:List EV->Option qbp
 |[a0,a1,a2]=>match qcg (.str) a0,qcg (.int .i64) a1,qcg (.bool) a2 with
  |some y0,some y1,some y2=>some ⟨y0,y1,y2⟩
  |_,_,_=>none
 |_=>none
theorem qbp.qig(x:qbp)(len:Len):∀j,j<3->toV len (qbp.c x j)=.t (qbp.e x j)
 |0,_|1,_|2,_=>by simp only[qbp.c,toV];rfl
 |n+3,h=>absurd h (by omega)
theorem qbp.qdu(x:qbp):∀j,(qbp.c x j).dat=true
 |0|1|2=>rfl
 |n+3=>rfl
theorem qbp.qgp(x:qbp)(j:Nat)(v:EV)(y:qbp)(h:qbp.s x j v=some y):(∀len,Wk (toV len v) (toV len (qbp.c y j)))/\∀j',j'≠j->qbp.c y j'=qbp.c x j':=by
 match j with
 |0=>
  simp only[qbp.s]at h;split at h
  ·rename_i a ha;injection h with h;subst h;refine⟨qal ha,fun j' hj=>?_⟩
   match j',hj with
   |0,hj=>exact absurd rfl hj
   |1,hj|2,hj=>exact rfl
   |n+3,_=>rfl
  ·cases h
 |1=>
  simp only[qbp.s]at h;split at h
  ·rename_i a ha;injection h with h;subst h;refine⟨qal ha,fun j' hj=>?_⟩
   match j',hj with
   |0,hj=>exact rfl
   |1,hj=>exact absurd rfl hj
   |2,hj=>exact rfl
   |n+3,_=>rfl
  ·cases h
 |2=>
  simp only[qbp.s]at h;split at h
  ·rename_i a ha;injection h with h;subst h;refine⟨qal ha,fun j' hj=>?_⟩
   match j',hj with
   |0,hj|1,hj=>exact rfl
   |2,hj=>exact absurd rfl hj
   |n+3,_=>rfl
  ·cases h
 |n+3=>simp[qbp.s]at h
theorem qbp.qmf(l:List EV)(y:qbp)(h:qbp.m l=some y):l.length=3/\∀j,j<3->∀len,Wk (qa3 len l j) (toV len (qbp.c y j)):=by
 unfold qbp.m at h;split at h
 ·split at h
  ·rename_i h0 h1 h2;injection h with h;subst h;refine⟨rfl,fun j hj len=>?_⟩
   match j,hj with
   |0,_=>simp only[qa3];exact qal h0 len
   |1,_=>simp only[qa3];exact qal h1 len
   |2,_=>simp only[qa3];exact qal h2 len
   |n+3,h=>exact absurd h (by omega)
  ·cases h
 ·cases h
def Fn.c(x:Fn):Nat->EV
 |0=>.s (x.name)
 |1=>.fz (.int .i64) (x.qab)
 |2=>.fz (.st 4) (x.qao)
 |3=>.fz (.st 5) (x.streams)
 |4=>.fz (.int .i64) (x.qa4)
 |5=>.fz (.st 3) (x.blocks)
 |_=>.un
def Fn.s(x:Fn)(j:Nat)(v:EV):Option Fn:=match j with
 |0=>match qcg (.str) v with
  |some y=>some { x with name:=y }
  |none=>none
 |1=>match qcg (.sl (.int .i64)) v with
  |some y=>some { x with qab:=y }
  |none=>none
 |2=>match qcg (.sl (.st 4)) v with
  |some y=>some { x with qao:=y }
  |none=>none
 |3=>match qcg (.sl (.st 5)) v with
  |some y=>some { x with streams:=y }
  |none=>none
 |4=>match qcg (.sl (.int .i64)) v with
  |some y=>some { x with qa4:=y }
  |none=>none
 |5=>match qcg (.sl (.st 3)) v with
  |some y=>some { x with blocks:=y }
  |none=>none
 |_=>none
def Fn.m:List EV->Option Fn
 |[a0,a1,a2,a3,a4,a5]=>match qcg (.str) a0,qcg (.sl (.int .i64)) a1,qcg (.sl (.st 4)) a2,qcg (.sl (.st 5)) a3,qcg (.sl (.int .i64)) a4,qcg (.sl (.st 3)) a5 with
  |some y0,some y1,some y2,some y3,some y4,some y5=>some ⟨y0,y1,y2,y3,y4,y5⟩
  |_,_,_,_,_,_=>none
 |_=>none
theorem Fn.qig(x:Fn)(len:Len):∀j,j<6->toV len (Fn.c x j)=.t (Fn.e x j)
 |0,_|1,_|2,_|3,_|4,_|5,_=>by simp only[Fn.c,toV];rfl
 |n+6,h=>absurd h (by omega)
theorem Fn.qdu(x:Fn):∀j,(Fn.c x j).dat=true
 |0|1|2|3|4|5=>rfl
 |n+6=>rfl
theorem Fn.qgp(x:Fn)(j:Nat)(v:EV)(y:Fn)(h:Fn.s x j v=some y):(∀len,Wk (toV len v) (toV len (Fn.c y j)))/\∀j',j'≠j->Fn.c y j'=Fn.c x j':=by
 match j with
 |0=>
  simp only[Fn.s]at h;split at h
  ·rename_i a ha;injection h with h;subst h;refine⟨qal ha,fun j' hj=>?_⟩
   match j',hj with
   |0,hj=>exact absurd rfl hj
   |1,hj|2,hj|3,hj|4,hj|5,hj=>exact rfl
   |n+6,_=>rfl
  ·cases h
 |1=>
  simp only[Fn.s]at h;split at h
  ·rename_i a ha;injection h with h;subst h;refine⟨qal ha,fun j' hj=>?_⟩
   match j',hj with
   |0,hj=>exact rfl
   |1,hj=>exact absurd rfl hj
   |2,hj|3,hj|4,hj|5,hj=>exact rfl
   |n+6,_=>rfl
  ·cases h
 |2=>
  simp only[Fn.s]at h;split at h
  ·rename_i a ha;injection h with h;subst h;refine⟨qal ha,fun j' hj=>?_⟩
   match j',hj with
   |0,hj|1,hj=>exact rfl
   |2,hj=>exact absurd rfl hj
   |3,hj|4,hj|5,hj=>exact rfl
   |n+6,_=>rfl
  ·cases h
 |3=>
  simp only[Fn.s]at h;split at h
  ·rename_i a ha;injection h with h;subst h;refine⟨qal ha,fun j' hj=>?_⟩
   match j',hj with
   |0,hj|1,hj|2,hj=>exact rfl
   |3,hj=>exact absurd rfl hj
   |4,hj|5,hj=>exact rfl
   |n+6,_=>rfl
  ·cases h
 |4=>
  simp only[Fn.s]at h;split at h
  ·rename_i a ha;injection h with h;subst h;refine⟨qal ha,fun j' hj=>?_⟩
   match j',hj with
   |0,hj|1,hj|2,hj|3,hj=>exact rfl
   |4,hj=>exact absurd rfl hj
   |5,hj=>exact rfl
   |n+6,_=>rfl
  ·cases h
 |5=>
  simp only[Fn.s]at h;split at h
  ·rename_i a ha;injection h with h;subst h;refine⟨qal ha,fun j' hj=>?_⟩
   match j',hj with
   |0,hj|1,hj|2,hj|3,hj|4,hj=>exact rfl
   |5,hj=>exact absurd rfl hj
   |n+6,_=>rfl
  ·cases h
 |n+6=>simp[Fn.s]at h
theorem Fn.qmf(l:List EV)(y:Fn)(h:Fn.m l=some y):l.length=6/\∀j,j<6->∀len,Wk (qa3 len l j) (toV len (Fn.c y j)):=by
 unfold Fn.m at h;split at h
 ·split at h
  ·rename_i h0 h1 h2 h3 h4 h5;injection h with h;subst h;refine⟨rfl,fun j hj len=>?_⟩
   match j,hj with
   |0,_=>simp only[qa3];exact qal h0 len
   |1,_=>simp only[qa3];exact qal h1 len
   |2,_=>simp only[qa3];exact qal h2 len
   |3,_=>simp only[qa3];exact qal h3 len
   |4,_=>simp only[qa3];exact qal h4 len
   |5,_=>simp only[qa3];exact qal h5 len
   |n+6,h=>exact absurd h (by omega)
  ·cases h
 ·cases h
def Typ.c(x:Typ):Nat->EV
 |0=>.i .i64 (x.width)
 |1=>.b (x.signed)
 |_=>.un
def Typ.s(x:Typ)(j:Nat)(v:EV):Option Typ:=match j with
 |0=>match qcg (.int .i64) v with
  |some y=>some { x with width:=y }
  |none=>none
 |1=>match qcg (.bool) v with
  |some y=>some { x with signed:=y }
  |none=>none
 |_=>none
def Typ.m:List EV->Option Typ
 |[a0,a1]=>match qcg (.int .i64) a0,qcg (.bool) a1 with
  |some y0,some y1=>some ⟨y0,y1⟩
  |_,_=>none
 |_=>none
theorem Typ.qig(x:Typ)(len:Len):∀j,j<2->toV len (Typ.c x j)=.t (Typ.e x j)
 |0,_|1,_=>by simp only[Typ.c,toV];rfl
 |n+2,h=>absurd h (by omega)
theorem Typ.qdu(x:Typ):∀j,(Typ.c x j).dat=true
 |0|1=>rfl
 |n+2=>rfl
theorem Typ.qgp(x:Typ)(j:Nat)(v:EV)(y:Typ)(h:Typ.s x j v=some y):(∀len,Wk (toV len v) (toV len (Typ.c y j)))/\∀j',j'≠j->Typ.c y j'=Typ.c x j':=by
 match j with
 |0=>
  simp only[Typ.s]at h;split at h
  ·rename_i a ha;injection h with h;subst h;refine⟨qal ha,fun j' hj=>?_⟩
   match j',hj with
   |0,hj=>exact absurd rfl hj
   |1,hj=>exact rfl
   |n+2,_=>rfl
  ·cases h
 |1=>
  simp only[Typ.s]at h;split at h
  ·rename_i a ha;injection h with h;subst h;refine⟨qal ha,fun j' hj=>?_⟩
   match j',hj with
   |0,hj=>exact rfl
   |1,hj=>exact absurd rfl hj
   |n+2,_=>rfl
  ·cases h
 |n+2=>simp[Typ.s]at h
theorem Typ.qmf(l:List EV)(y:Typ)(h:Typ.m l=some y):l.length=2/\∀j,j<2->∀len,Wk (qa3 len l j) (toV len (Typ.c y j)):=by
 unfold Typ.m at h;split at h
 ·split at h
  ·rename_i h0 h1;injection h with h;subst h;refine⟨rfl,fun j hj len=>?_⟩
   match j,hj with
   |0,_=>simp only[qa3];exact qal h0 len
   |1,_=>simp only[qa3];exact qal h1 len
   |n+2,h=>exact absurd h (by omega)
  ·cases h
 ·cases h
def qag.c(x:qag):Nat->Cell
 |0=>.ev (.i .i64 (x.op))
 |1=>.ev (.i .i64 (x.dest))
 |2=>match x.args with
  |.own l=>.own 3 (.int .i64) l
  |.fz l=>.ev (.fz (.int .i64) l)
 |3=>.ev (.i .u64 (x.num))
 |4=>.ev (.i .i64 (x.mem))
 |_=>.ev .un
def qag.s(x:qag)(j:Nat)(v:EV):Option qag:=match j with
 |0=>match qcg (.int .i64) v with
  |some y=>some { x with op:=y }
  |none=>none
 |1=>match qcg (.int .i64) v with
  |some y=>some { x with dest:=y }
  |none=>none
 |3=>match qcg (.int .u64) v with
  |some y=>some { x with num:=y }
  |none=>none
 |4=>match qcg (.int .i64) v with
  |some y=>some { x with mem:=y }
  |none=>none
 |_=>none
def qag.oS(x:qag)(j:Nat)(t:TypeId)(e:Ty)(l:List e.D):Option qag:=match j with
 | 2=>bif Nat.beq t 3 then(match qbt List e (.int .i64) l with
  |some y=>some { x with args:=.own y }
  | none=>none)else none
 |_=>none
def qag.k(x:qag)(j:Nat)(t:TypeId)(e:Ty)(l:List e.D):Option qag:=match qag.c x j with
 |.own _ _ _=>qag.oS x j t e l
 |.ev _=>none
def qag.oT:Nat->Option (TypeId×Ty)
 |2=>some (3,(.int .i64))
 |_=>none
def qag.fT:Nat->Option Ty
 |2=>some (.int .i64)
 |_=>none
def qag.oG(x:qag)(j:Nat)(e:Ty):Option (List e.D):=match j with
 | 2=>(match qbt (fun X=>Option (List X)) (.int .i64) e (Sp.qgr x.args)with
  |some o=>o
  | none=>none)
 |_=>none
def qag.fG(x:qag)(j:Nat)(e:Ty):Option (List e.D):=match j with
 | 2=>(match qbt (fun X=>Option (List X)) (.int .i64) e (Sp.qr9 x.args)with
  |some o=>o
  | none=>none)
 |_=>none
theorem qag.qgp(x:qag)(j:Nat)(v:EV)(y:qag)(h:qag.s x j v=some y):(∃u0,qag.c x j=.ev u0)/\(∃u,qag.c y j=.ev u/\∀len,Wk (toV len v) (toV len u))/\∀j',j'≠j->qag.c y j'=qag.c x j':=by
 match j with
 |0=>
  simp only[qag.s]at h;split at h
  ·rename_i a ha;injection h with h;subst h;refine⟨⟨_,rfl⟩,⟨_,rfl,qal ha⟩,fun j' hj=>?_⟩
   match j',hj with
   |0,hj=>exact absurd rfl hj
   |1,hj|2,hj|3,hj|4,hj=>exact rfl
   |n+5,_=>rfl
  ·cases h
 |1=>
  simp only[qag.s]at h;split at h
  ·rename_i a ha;injection h with h;subst h;refine⟨⟨_,rfl⟩,⟨_,rfl,qal ha⟩,fun j' hj=>?_⟩
   match j',hj with
   |0,hj=>exact rfl
   |1,hj=>exact absurd rfl hj
   |2,hj|3,hj|4,hj=>exact rfl
   |n+5,_=>rfl
  ·cases h
 |2=>simp[qag.s]at h
 |3=>
  simp only[qag.s]at h;split at h
  ·rename_i a ha;injection h with h;subst h;refine⟨⟨_,rfl⟩,⟨_,rfl,qal ha⟩,fun j' hj=>?_⟩
   match j',hj with
   |0,hj|1,hj|2,hj=>exact rfl
   |3,hj=>exact absurd rfl hj
   |4,hj=>exact rfl
   |n+5,_=>rfl
  ·cases h
 |4=>
  simp only[qag.s]at h;split at h
  ·rename_i a ha;injection h with h;subst h;refine⟨⟨_,rfl⟩,⟨_,rfl,qal ha⟩,fun j' hj=>?_⟩
   match j',hj with
   |0,hj|1,hj|2,hj|3,hj=>exact rfl
   |4,hj=>exact absurd rfl hj
   |n+5,_=>rfl
  ·cases h
 |n+5=>simp[qag.s]at h
theorem qag.qfx(x:qag)(j:Nat)(t:TypeId)(e:Ty)(l:List e.D)(y:qag)(h:qag.oS x j t e l=some y):qag.c y j=.own t e l/\∀j',j'≠j->qag.c y j'=qag.c x j':=by
 match j with
 |0=>simp[qag.oS]at h
 |1=>simp[qag.oS]at h
 |2=>
  simp only[qag.oS]at h;cases hb:Nat.beq t 3 with
  |false=>rw[hb]at h;cases h
  |true=>
   rw[hb]at h;obtain rfl:=zg2 hb;simp only[cond_true]at h;split at h
   ·rename_i a ha;injection h with h;subst h;obtain⟨rfl,ha⟩:=qa0 ha;obtain rfl:=eq_of_heq ha;refine⟨rfl,fun j' hj=>?_⟩
    match j',hj with
    |0,hj|1,hj=>exact rfl
    |2,hj=>exact absurd rfl hj
    |3,hj|4,hj=>exact rfl
    |n+5,_=>rfl
   ·cases h
 |3=>simp[qag.oS]at h
 |4=>simp[qag.oS]at h
 |n+5=>simp[qag.oS]at h
theorem qag.qfy(x:qag)(j:Nat)(t:TypeId)(e:Ty)(l:List e.D)(h1:qag.oT j=some (t,e))(h2:qag.oG x j e=some l):qag.c x j=.own t e l:=by
 match j with
 |0=>simp[qag.oT]at h1
 |1=>simp[qag.oT]at h1
 |2=>
  injection h1 with h1;injection h1 with h1 h3;subst h1;subst h3;simp only[qag.oG,qax,qag.c]at h2 ⊢;cases hx:x.args with
  |own l'=>rw[hx]at h2;injection h2 with h2;subst h2;rfl
  |fz l'=>rw[hx]at h2;cases h2
 |3=>simp[qag.oT]at h1
 |4=>simp[qag.oT]at h1
 |n+5=>simp[qag.oT]at h1
theorem qag.qj3(x:qag)(j:Nat)(e:Ty)(l:List e.D)(h1:qag.fT j=some e)(h2:qag.fG x j e=some l):qag.c x j=.ev (.fz e l):=by
 match j with
 |0=>simp[qag.fT]at h1
 |1=>simp[qag.fT]at h1
 |2=>
  injection h1 with h1;subst h1;simp only[qag.fG,qax,qag.c]at h2 ⊢;cases hx:x.args with
  |fz l'=>rw[hx]at h2;injection h2 with h2;subst h2;rfl
  |own l'=>rw[hx]at h2;cases h2
 |3=>simp[qag.fT]at h1
 |4=>simp[qag.fT]at h1
 |n+5=>simp[qag.fT]at h1
theorem qag.same(x:qag)(j:Nat)(t:TypeId)(e:Ty)(l:List e.D)(y:qag)(t0:TypeId)(e0:Ty)(l0:List e0.D)(h:qag.oS x j t e l=some y)(hc:qag.c x j=.own t0 e0 l0):∃l1,qag.c x j=.own t e l1:=by
 match j with
 |0=>simp[qag.oS]at h
 |1=>simp[qag.oS]at h
 |2=>
  simp only[qag.oS]at h;cases hb:Nat.beq t 3 with
  |false=>rw[hb]at h;cases h
  |true=>
   rw[hb]at h;obtain rfl:=zg2 hb;simp only[cond_true]at h;split at h
   ·rename_i a ha;obtain⟨rfl,_⟩:=qa0 ha;simp only[qag.c]at hc ⊢;cases hx:x.args with
    |own l1=>exact⟨l1,rfl⟩
    |fz l1=>rw[hx]at hc;cases hc
   ·cases h
 |3=>simp[qag.oS]at h
 |4=>simp[qag.oS]at h
 |n+5=>simp[qag.oS]at h
theorem qag.qhs(j:Nat)(t:TypeId)(e:Ty)(l:List e.D)(h:qag.c qag.z j=.own t e l):l=[]:=by
 match j with
 |0|1|2|3|4=>cases h
 |n+5=>cases h
theorem qag.qdu(x:qag)(j:Nat)(u:EV)(h:qag.c x j=.ev u):u.dat=true:=by
 match j with
 |0|1=>injection h with h;subst h;rfl
 |2=>
  simp only[qag.c]at h;cases hx:x.args<;>rw[hx]at h
  ·cases h
  ·injection h with h;subst h;rfl
 |3|4=>injection h with h;subst h;rfl
 |n+5=>injection h with h;subst h;rfl
def qaj.c(x:qaj):Nat->Cell
 |0=>.ev (.i .i64 (x.block))
 |1=>match x.args with
  |.own l=>.own 3 (.int .i64) l
  |.fz l=>.ev (.fz (.int .i64) l)
 |_=>.ev .un
def qaj.s(x:qaj)(j:Nat)(v:EV):Option qaj:=match j with
 |0=>match qcg (.int .i64) v with
  |some y=>some { x with block:=y }
  |none=>none
 |_=>none
def qaj.oS(x:qaj)(j:Nat)(t:TypeId)(e:Ty)(l:List e.D):Option qaj:=match j with
 | 1=>bif Nat.beq t 3 then(match qbt List e (.int .i64) l with
  |some y=>some { x with args:=.own y }
  | none=>none)else none
 |_=>none
def qaj.k(x:qaj)(j:Nat)(t:TypeId)(e:Ty)(l:List e.D):Option qaj:=match qaj.c x j with
 |.own _ _ _=>qaj.oS x j t e l
 |.ev _=>none
def qaj.oT:Nat->Option (TypeId×Ty)
 |1=>some (3,(.int .i64))
 |_=>none
def qaj.fT:Nat->Option Ty
 |1=>some (.int .i64)
 |_=>none
def qaj.oG(x:qaj)(j:Nat)(e:Ty):Option (List e.D):=match j with
 | 1=>(match qbt (fun X=>Option (List X)) (.int .i64) e (Sp.qgr x.args)with
  |some o=>o
  | none=>none)
 |_=>none
def qaj.fG(x:qaj)(j:Nat)(e:Ty):Option (List e.D):=match j with
 | 1=>(match qbt (fun X=>Option (List X)) (.int .i64) e (Sp.qr9 x.args)with
  |some o=>o
  | none=>none)
 |_=>none
theorem qaj.qgp(x:qaj)(j:Nat)(v:EV)(y:qaj)(h:qaj.s x j v=some y):(∃u0,qaj.c x j=.ev u0)/\(∃u,qaj.c y j=.ev u/\∀len,Wk (toV len v) (toV len u))/\∀j',j'≠j->qaj.c y j'=qaj.c x j':=by
 match j with
 |0=>
  simp only[qaj.s]at h;split at h
  ·rename_i a ha;injection h with h;subst h;refine⟨⟨_,rfl⟩,⟨_,rfl,qal ha⟩,fun j' hj=>?_⟩
   match j',hj with
   |0,hj=>exact absurd rfl hj
   |1,hj=>exact rfl
   |n+2,_=>rfl
  ·cases h
 |1=>simp[qaj.s]at h
 |n+2=>simp[qaj.s]at h
theorem qaj.qfx(x:qaj)(j:Nat)(t:TypeId)(e:Ty)(l:List e.D)(y:qaj)(h:qaj.oS x j t e l=some y):qaj.c y j=.own t e l/\∀j',j'≠j->qaj.c y j'=qaj.c x j':=by
 match j with
 |0=>simp[qaj.oS]at h
 |1=>
  simp only[qaj.oS]at h;cases hb:Nat.beq t 3 with
  |false=>rw[hb]at h;cases h
  |true=>
   rw[hb]at h;obtain rfl:=zg2 hb;simp only[cond_true]at h;split at h
   ·rename_i a ha;injection h with h;subst h;obtain⟨rfl,ha⟩:=qa0 ha;obtain rfl:=eq_of_heq ha;refine⟨rfl,fun j' hj=>?_⟩
    match j',hj with
    |0,hj=>exact rfl
    |1,hj=>exact absurd rfl hj
    |n+2,_=>rfl
   ·cases h
 |n+2=>simp[qaj.oS]at h
theorem qaj.qfy(x:qaj)(j:Nat)(t:TypeId)(e:Ty)(l:List e.D)(h1:qaj.oT j=some (t,e))(h2:qaj.oG x j e=some l):qaj.c x j=.own t e l:=by
 match j with
 |0=>simp[qaj.oT]at h1
 |1=>
  injection h1 with h1;injection h1 with h1 h3;subst h1;subst h3;simp only[qaj.oG,qax,qaj.c]at h2 ⊢;cases hx:x.args with
  |own l'=>rw[hx]at h2;injection h2 with h2;subst h2;rfl
  |fz l'=>rw[hx]at h2;cases h2
 |n+2=>simp[qaj.oT]at h1
theorem qaj.qj3(x:qaj)(j:Nat)(e:Ty)(l:List e.D)(h1:qaj.fT j=some e)(h2:qaj.fG x j e=some l):qaj.c x j=.ev (.fz e l):=by
 match j with
 |0=>simp[qaj.fT]at h1
 |1=>
  injection h1 with h1;subst h1;simp only[qaj.fG,qax,qaj.c]at h2 ⊢;cases hx:x.args with
  |fz l'=>rw[hx]at h2;injection h2 with h2;subst h2;rfl
  |own l'=>rw[hx]at h2;cases h2
 |n+2=>simp[qaj.fT]at h1
theorem qaj.same(x:qaj)(j:Nat)(t:TypeId)(e:Ty)(l:List e.D)(y:qaj)(t0:TypeId)(e0:Ty)(l0:List e0.D)(h:qaj.oS x j t e l=some y)(hc:qaj.c x j=.own t0 e0 l0):∃l1,qaj.c x j=.own t e l1:=by
 match j with
 |0=>simp[qaj.oS]at h
 |1=>
  simp only[qaj.oS]at h;cases hb:Nat.beq t 3 with
  |false=>rw[hb]at h;cases h
  |true=>
   rw[hb]at h;obtain rfl:=zg2 hb;simp only[cond_true]at h;split at h
   ·rename_i a ha;obtain⟨rfl,_⟩:=qa0 ha;simp only[qaj.c]at hc ⊢;cases hx:x.args with
    |own l1=>exact⟨l1,rfl⟩
    |fz l1=>rw[hx]at hc;cases hc
   ·cases h
 |n+2=>simp[qaj.oS]at h
theorem qaj.qhs(j:Nat)(t:TypeId)(e:Ty)(l:List e.D)(h:qaj.c qaj.z j=.own t e l):l=[]:=by
 match j with
 |0|1=>cases h
 |n+2=>cases h
theorem qaj.qdu(x:qaj)(j:Nat)(u:EV)(h:qaj.c x j=.ev u):u.dat=true:=by
 match j with
 |0=>injection h with h;subst h;rfl
 |1=>
  simp only[qaj.c]at h;cases hx:x.args<;>rw[hx]at h
  ·cases h
  ·injection h with h;subst h;rfl
 |n+2=>injection h with h;subst h;rfl
def qaq.c(x:qaq):Nat->Cell
 |0=>.ev (.i .i64 (x.kind))
 |1=>.ev (.i .i64 (x.cond))
 |2=>match x.to with
  |.own l=>.own 51 (.st 9) l
  |.fz l=>.ev (.fz (.st 1) l)
 |3=>match x.qa4 with
  |.own l=>.own 3 (.int .i64) l
  |.fz l=>.ev (.fz (.int .i64) l)
 |_=>.ev .un
def qaq.s(x:qaq)(j:Nat)(v:EV):Option qaq:=match j with
 |0=>match qcg (.int .i64) v with
  |some y=>some { x with kind:=y }
  |none=>none
 |1=>match qcg (.int .i64) v with
  |some y=>some { x with cond:=y }
  |none=>none
 |_=>none
def qaq.oS(x:qaq)(j:Nat)(t:TypeId)(e:Ty)(l:List e.D):Option qaq:=match j with
 | 2=>bif Nat.beq t 51 then(match qbt List e (.st 9) l with
  |some y=>some { x with to:=.own y }
  | none=>none)else none
 | 3=>bif Nat.beq t 3 then(match qbt List e (.int .i64) l with
  |some y=>some { x with qa4:=.own y }
  | none=>none)else none
 |_=>none
def qaq.k(x:qaq)(j:Nat)(t:TypeId)(e:Ty)(l:List e.D):Option qaq:=match qaq.c x j with
 |.own _ _ _=>qaq.oS x j t e l
 |.ev _=>none
def qaq.oT:Nat->Option (TypeId×Ty)
 |2=>some (51,(.st 9))
 |3=>some (3,(.int .i64))
 |_=>none
def qaq.fT:Nat->Option Ty
 |2=>some (.st 1)
 |3=>some (.int .i64)
 |_=>none
def qaq.oG(x:qaq)(j:Nat)(e:Ty):Option (List e.D):=match j with
 | 2=>(match qbt (fun X=>Option (List X)) (.st 9) e (Sp.qgr x.to)with
  |some o=>o
  | none=>none)
 | 3=>(match qbt (fun X=>Option (List X)) (.int .i64) e (Sp.qgr x.qa4)with
  |some o=>o
  | none=>none)
 |_=>none
def qaq.fG(x:qaq)(j:Nat)(e:Ty):Option (List e.D):=match j with
 | 2=>(match qbt (fun X=>Option (List X)) (.st 1) e (Sp.qr9 x.to)with
  |some o=>o
  | none=>none)
 | 3=>(match qbt (fun X=>Option (List X)) (.int .i64) e (Sp.qr9 x.qa4)with
  |some o=>o
  | none=>none)
 |_=>none
theorem qaq.qgp(x:qaq)(j:Nat)(v:EV)(y:qaq)(h:qaq.s x j v=some y):(∃u0,qaq.c x j=.ev u0)/\(∃u,qaq.c y j=.ev u/\∀len,Wk (toV len v) (toV len u))/\∀j',j'≠j->qaq.c y j'=qaq.c x j':=by
 match j with
 |0=>
  simp only[qaq.s]at h;split at h
  ·rename_i a ha;injection h with h;subst h;refine⟨⟨_,rfl⟩,⟨_,rfl,qal ha⟩,fun j' hj=>?_⟩
   match j',hj with
   |0,hj=>exact absurd rfl hj
   |1,hj|2,hj|3,hj=>exact rfl
   |n+4,_=>rfl
  ·cases h
 |1=>
  simp only[qaq.s]at h;split at h
  ·rename_i a ha;injection h with h;subst h;refine⟨⟨_,rfl⟩,⟨_,rfl,qal ha⟩,fun j' hj=>?_⟩
   match j',hj with
   |0,hj=>exact rfl
   |1,hj=>exact absurd rfl hj
   |2,hj|3,hj=>exact rfl
   |n+4,_=>rfl
  ·cases h
 |2=>simp[qaq.s]at h
 |3=>simp[qaq.s]at h
 |n+4=>simp[qaq.s]at h
theorem qaq.qfx(x:qaq)(j:Nat)(t:TypeId)(e:Ty)(l:List e.D)(y:qaq)(h:qaq.oS x j t e l=some y):qaq.c y j=.own t e l/\∀j',j'≠j->qaq.c y j'=qaq.c x j':=by
 match j with
 |0=>simp[qaq.oS]at h
 |1=>simp[qaq.oS]at h
 |2=>
  simp only[qaq.oS]at h;cases hb:Nat.beq t 51 with
  |false=>rw[hb]at h;cases h
  |true=>
   rw[hb]at h;obtain rfl:=zg2 hb;simp only[cond_true]at h;split at h
   ·rename_i a ha;injection h with h;subst h;obtain⟨rfl,ha⟩:=qa0 ha;obtain rfl:=eq_of_heq ha;refine⟨rfl,fun j' hj=>?_⟩
    match j',hj with
    |0,hj|1,hj=>exact rfl
    |2,hj=>exact absurd rfl hj
    |3,hj=>exact rfl
    |n+4,_=>rfl
   ·cases h
 |3=>
  simp only[qaq.oS]at h;cases hb:Nat.beq t 3 with
  |false=>rw[hb]at h;cases h
  |true=>
   rw[hb]at h;obtain rfl:=zg2 hb;simp only[cond_true]at h;split at h
   ·rename_i a ha;injection h with h;subst h;obtain⟨rfl,ha⟩:=qa0 ha;obtain rfl:=eq_of_heq ha;refine⟨rfl,fun j' hj=>?_⟩
    match j',hj with
    |0,hj|1,hj|2,hj=>exact rfl
    |3,hj=>exact absurd rfl hj
    |n+4,_=>rfl
   ·cases h
 |n+4=>simp[qaq.oS]at h
theorem qaq.qfy(x:qaq)(j:Nat)(t:TypeId)(e:Ty)(l:List e.D)(h1:qaq.oT j=some (t,e))(h2:qaq.oG x j e=some l):qaq.c x j=.own t e l:=by
 match j with
 |0=>simp[qaq.oT]at h1
 |1=>simp[qaq.oT]at h1
 |2=>
  injection h1 with h1;injection h1 with h1 h3;subst h1;subst h3;simp only[qaq.oG,qax,qaq.c]at h2 ⊢;cases hx:x.to with
  |own l'=>rw[hx]at h2;injection h2 with h2;subst h2;rfl
  |fz l'=>rw[hx]at h2;cases h2
 |3=>
  injection h1 with h1;injection h1 with h1 h3;subst h1;subst h3;simp only[qaq.oG,qax,qaq.c]at h2 ⊢;cases hx:x.qa4 with
  |own l'=>rw[hx]at h2;injection h2 with h2;subst h2;rfl
  |fz l'=>rw[hx]at h2;cases h2
 |n+4=>simp[qaq.oT]at h1
theorem qaq.qj3(x:qaq)(j:Nat)(e:Ty)(l:List e.D)(h1:qaq.fT j=some e)(h2:qaq.fG x j e=some l):qaq.c x j=.ev (.fz e l):=by
 match j with
 |0=>simp[qaq.fT]at h1
 |1=>simp[qaq.fT]at h1
 |2=>
  injection h1 with h1;subst h1;simp only[qaq.fG,qax,qaq.c]at h2 ⊢;cases hx:x.to with
  |fz l'=>rw[hx]at h2;injection h2 with h2;subst h2;rfl
  |own l'=>rw[hx]at h2;cases h2
 |3=>
  injection h1 with h1;subst h1;simp only[qaq.fG,qax,qaq.c]at h2 ⊢;cases hx:x.qa4 with
  |fz l'=>rw[hx]at h2;injection h2 with h2;subst h2;rfl
  |own l'=>rw[hx]at h2;cases h2
 |n+4=>simp[qaq.fT]at h1
theorem qaq.same(x:qaq)(j:Nat)(t:TypeId)(e:Ty)(l:List e.D)(y:qaq)(t0:TypeId)(e0:Ty)(l0:List e0.D)(h:qaq.oS x j t e l=some y)(hc:qaq.c x j=.own t0 e0 l0):∃l1,qaq.c x j=.own t e l1:=by
 match j with
 |0=>simp[qaq.oS]at h
 |1=>simp[qaq.oS]at h
 |2=>
  simp only[qaq.oS]at h;cases hb:Nat.beq t 51 with
  |false=>rw[hb]at h;cases h
  |true=>
   rw[hb]at h;obtain rfl:=zg2 hb;simp only[cond_true]at h;split at h
   ·rename_i a ha;obtain⟨rfl,_⟩:=qa0 ha;simp only[qaq.c]at hc ⊢;cases hx:x.to with
    |own l1=>exact⟨l1,rfl⟩
    |fz l1=>rw[hx]at hc;cases hc
   ·cases h
 |3=>
  simp only[qaq.oS]at h;cases hb:Nat.beq t 3 with
  |false=>rw[hb]at h;cases h
  |true=>
   rw[hb]at h;obtain rfl:=zg2 hb;simp only[cond_true]at h;split at h
   ·rename_i a ha;obtain⟨rfl,_⟩:=qa0 ha;simp only[qaq.c]at hc ⊢;cases hx:x.qa4 with
    |own l1=>exact⟨l1,rfl⟩
    |fz l1=>rw[hx]at hc;cases hc
   ·cases h
 |n+4=>simp[qaq.oS]at h
theorem qaq.qhs(j:Nat)(t:TypeId)(e:Ty)(l:List e.D)(h:qaq.c qaq.z j=.own t e l):l=[]:=by
 match j with
 |0|1|2|3=>cases h
 |n+4=>cases h
theorem qaq.qdu(x:qaq)(j:Nat)(u:EV)(h:qaq.c x j=.ev u):u.dat=true:=by
 match j with
 |0|1=>injection h with h;subst h;rfl
 |2=>
  simp only[qaq.c]at h;cases hx:x.to<;>rw[hx]at h
  ·cases h
  ·injection h with h;subst h;rfl
 |3=>
  simp only[qaq.c]at h;cases hx:x.qa4<;>rw[hx]at h
  ·cases h
  ·injection h with h;subst h;rfl
 |n+4=>injection h with h;subst h;rfl
def qaa.c(x:qaa):Nat->Cell
 |0=>match x.params with
  |.own l=>.own 3 (.int .i64) l
  |.fz l=>.ev (.fz (.int .i64) l)
 |1=>match x.insts with
  |.own l=>.own 46 (.st 8) l
  |.fz l=>.ev (.fz (.st 0) l)
 |2=>.ev (.i .i64 (x.term.kind))
 |3=>.ev (.i .i64 (x.term.cond))
 |4=>match x.term.to with
  |.own l=>.own 51 (.st 9) l
  |.fz l=>.ev (.fz (.st 1) l)
 |5=>match x.term.qa4 with
  |.own l=>.own 3 (.int .i64) l
  |.fz l=>.ev (.fz (.int .i64) l)
 |6=>.ev (.i .i64 (x.qar))
 |7=>.ev (.i .i64 (x.qba))
 |8=>.ev (.i .i64 (x.line))
 |_=>.ev .un
def qaa.s(x:qaa)(j:Nat)(v:EV):Option qaa:=match j with
 |2=>match qcg (.int .i64) v with
  |some y=>some { x with term:={ x.term with kind:=y } }
  |none=>none
 |3=>match qcg (.int .i64) v with
  |some y=>some { x with term:={ x.term with cond:=y } }
  |none=>none
 |6=>match qcg (.int .i64) v with
  |some y=>some { x with qar:=y }
  |none=>none
 |7=>match qcg (.int .i64) v with
  |some y=>some { x with qba:=y }
  |none=>none
 |8=>match qcg (.int .i64) v with
  |some y=>some { x with line:=y }
  |none=>none
 |_=>none
def qaa.oS(x:qaa)(j:Nat)(t:TypeId)(e:Ty)(l:List e.D):Option qaa:=match j with
 | 0=>bif Nat.beq t 3 then(match qbt List e (.int .i64) l with
  |some y=>some { x with params:=.own y }
  | none=>none)else none
 | 1=>bif Nat.beq t 46 then(match qbt List e (.st 8) l with
  |some y=>some { x with insts:=.own y }
  | none=>none)else none
 | 4=>bif Nat.beq t 51 then(match qbt List e (.st 9) l with
  |some y=>some { x with term:={ x.term with to:=.own y } }
  | none=>none)else none
 | 5=>bif Nat.beq t 3 then(match qbt List e (.int .i64) l with
  |some y=>some { x with term:={ x.term with qa4:=.own y } }
  | none=>none)else none
 |_=>none
def qaa.k(x:qaa)(j:Nat)(t:TypeId)(e:Ty)(l:List e.D):Option qaa:=match qaa.c x j with
 |.own _ _ _=>qaa.oS x j t e l
 |.ev _=>none
def qaa.oT:Nat->Option (TypeId×Ty)
 |0=>some (3,(.int .i64))
 |1=>some (46,(.st 8))
 |4=>some (51,(.st 9))
 |5=>some (3,(.int .i64))
 |_=>none
def qaa.fT:Nat->Option Ty
 |0=>some (.int .i64)
 |1=>some (.st 0)
 |4=>some (.st 1)
 |5=>some (.int .i64)
 |_=>none
def qaa.oG(x:qaa)(j:Nat)(e:Ty):Option (List e.D):=match j with
 | 0=>(match qbt (fun X=>Option (List X)) (.int .i64) e (Sp.qgr x.params)with
  |some o=>o
  | none=>none)
 | 1=>(match qbt (fun X=>Option (List X)) (.st 8) e (Sp.qgr x.insts)with
  |some o=>o
  | none=>none)
 | 4=>(match qbt (fun X=>Option (List X)) (.st 9) e (Sp.qgr x.term.to)with
  |some o=>o
  | none=>none)
 | 5=>(match qbt (fun X=>Option (List X)) (.int .i64) e (Sp.qgr x.term.qa4)with
  |some o=>o
  | none=>none)
 |_=>none
def qaa.fG(x:qaa)(j:Nat)(e:Ty):Option (List e.D):=match j with
 | 0=>(match qbt (fun X=>Option (List X)) (.int .i64) e (Sp.qr9 x.params)with
  |some o=>o
  | none=>none)
 | 1=>(match qbt (fun X=>Option (List X)) (.st 0) e (Sp.qr9 x.insts)with
  |some o=>o
  | none=>none)
 | 4=>(match qbt (fun X=>Option (List X)) (.st 1) e (Sp.qr9 x.term.to)with
  |some o=>o
  | none=>none)
 | 5=>(match qbt (fun X=>Option (List X)) (.int .i64) e (Sp.qr9 x.term.qa4)with
  |some o=>o
  | none=>none)
 |_=>none
theorem qaa.qgp(x:qaa)(j:Nat)(v:EV)(y:qaa)(h:qaa.s x j v=some y):(∃u0,qaa.c x j=.ev u0)/\(∃u,qaa.c y j=.ev u/\∀len,Wk (toV len v) (toV len u))/\∀j',j'≠j->qaa.c y j'=qaa.c x j':=by
 match j with
 |0=>simp[qaa.s]at h
 |1=>simp[qaa.s]at h
 |2=>
  simp only[qaa.s]at h;split at h
  ·rename_i a ha;injection h with h;subst h;refine⟨⟨_,rfl⟩,⟨_,rfl,qal ha⟩,fun j' hj=>?_⟩
   match j',hj with
   |0,hj|1,hj=>exact rfl
   |2,hj=>exact absurd rfl hj
   |3,hj|4,hj|5,hj|6,hj|7,hj|8,hj=>exact rfl
   |n+9,_=>rfl
  ·cases h
 |3=>
  simp only[qaa.s]at h;split at h
  ·rename_i a ha;injection h with h;subst h;refine⟨⟨_,rfl⟩,⟨_,rfl,qal ha⟩,fun j' hj=>?_⟩
   match j',hj with
   |0,hj|1,hj|2,hj=>exact rfl
   |3,hj=>exact absurd rfl hj
   |4,hj|5,hj|6,hj|7,hj|8,hj=>exact rfl
   |n+9,_=>rfl
  ·cases h
 |4=>simp[qaa.s]at h
 |5=>simp[qaa.s]at h
 |6=>
  simp only[qaa.s]at h;split at h
  ·rename_i a ha;injection h with h;subst h;refine⟨⟨_,rfl⟩,⟨_,rfl,qal ha⟩,fun j' hj=>?_⟩
   match j',hj with
   |0,hj|1,hj|2,hj|3,hj|4,hj|5,hj=>exact rfl
   |6,hj=>exact absurd rfl hj
   |7,hj|8,hj=>exact rfl
   |n+9,_=>rfl
  ·cases h
 |7=>
  simp only[qaa.s]at h;split at h
  ·rename_i a ha;injection h with h;subst h;refine⟨⟨_,rfl⟩,⟨_,rfl,qal ha⟩,fun j' hj=>?_⟩
   match j',hj with
   |0,hj|1,hj|2,hj|3,hj|4,hj|5,hj|6,hj=>exact rfl
   |7,hj=>exact absurd rfl hj
   |8,hj=>exact rfl
   |n+9,_=>rfl
  ·cases h
 |8=>
  simp only[qaa.s]at h;split at h
  ·rename_i a ha;injection h with h;subst h;refine⟨⟨_,rfl⟩,⟨_,rfl,qal ha⟩,fun j' hj=>?_⟩
   match j',hj with
   |0,hj|1,hj|2,hj|3,hj|4,hj|5,hj|6,hj|7,hj=>exact rfl
   |8,hj=>exact absurd rfl hj
   |n+9,_=>rfl
  ·cases h
 |n+9=>simp[qaa.s]at h
theorem qaa.qfx(x:qaa)(j:Nat)(t:TypeId)(e:Ty)(l:List e.D)(y:qaa)(h:qaa.oS x j t e l=some y):qaa.c y j=.own t e l/\∀j',j'≠j->qaa.c y j'=qaa.c x j':=by
 match j with
 |0=>
  simp only[qaa.oS]at h;cases hb:Nat.beq t 3 with
  |false=>rw[hb]at h;cases h
  |true=>
   rw[hb]at h;obtain rfl:=zg2 hb;simp only[cond_true]at h;split at h
   ·rename_i a ha;injection h with h;subst h;obtain⟨rfl,ha⟩:=qa0 ha;obtain rfl:=eq_of_heq ha;refine⟨rfl,fun j' hj=>?_⟩
    match j',hj with
    |0,hj=>exact absurd rfl hj
    |1,hj|2,hj|3,hj|4,hj|5,hj|6,hj|7,hj|8,hj=>exact rfl
    |n+9,_=>rfl
   ·cases h
 |1=>
  simp only[qaa.oS]at h;cases hb:Nat.beq t 46 with
  |false=>rw[hb]at h;cases h
  |true=>
   rw[hb]at h;obtain rfl:=zg2 hb;simp only[cond_true]at h;split at h
   ·rename_i a ha;injection h with h;subst h;obtain⟨rfl,ha⟩:=qa0 ha;obtain rfl:=eq_of_heq ha;refine⟨rfl,fun j' hj=>?_⟩
    match j',hj with
    |0,hj=>exact rfl
    |1,hj=>exact absurd rfl hj
    |2,hj|3,hj|4,hj|5,hj|6,hj|7,hj|8,hj=>exact rfl
    |n+9,_=>rfl
   ·cases h
 |2=>simp[qaa.oS]at h
 |3=>simp[qaa.oS]at h
 |4=>
  simp only[qaa.oS]at h;cases hb:Nat.beq t 51 with
  |false=>rw[hb]at h;cases h
  |true=>
   rw[hb]at h;obtain rfl:=zg2 hb;simp only[cond_true]at h;split at h
   ·rename_i a ha;injection h with h;subst h;obtain⟨rfl,ha⟩:=qa0 ha;obtain rfl:=eq_of_heq ha;refine⟨rfl,fun j' hj=>?_⟩
    match j',hj with
    |0,hj|1,hj|2,hj|3,hj=>exact rfl
    |4,hj=>exact absurd rfl hj
    |5,hj|6,hj|7,hj|8,hj=>exact rfl
    |n+9,_=>rfl
   ·cases h
 |5=>
  simp only[qaa.oS]at h;cases hb:Nat.beq t 3 with
  |false=>rw[hb]at h;cases h
  |true=>
   rw[hb]at h;obtain rfl:=zg2 hb;simp only[cond_true]at h;split at h
   ·rename_i a ha;injection h with h;subst h;obtain⟨rfl,ha⟩:=qa0 ha;obtain rfl:=eq_of_heq ha;refine⟨rfl,fun j' hj=>?_⟩
    match j',hj with
    |0,hj|1,hj|2,hj|3,hj|4,hj=>exact rfl
    |5,hj=>exact absurd rfl hj
    |6,hj|7,hj|8,hj=>exact rfl
    |n+9,_=>rfl
   ·cases h
 |6=>simp[qaa.oS]at h
 |7=>simp[qaa.oS]at h
 |8=>simp[qaa.oS]at h
 |n+9=>simp[qaa.oS]at h
theorem qaa.qfy(x:qaa)(j:Nat)(t:TypeId)(e:Ty)(l:List e.D)(h1:qaa.oT j=some (t,e))(h2:qaa.oG x j e=some l):qaa.c x j=.own t e l:=by
 match j with
 |0=>
  injection h1 with h1;injection h1 with h1 h3;subst h1;subst h3;simp only[qaa.oG,qax,qaa.c]at h2 ⊢;cases hx:x.params with
  |own l'=>rw[hx]at h2;injection h2 with h2;subst h2;rfl
  |fz l'=>rw[hx]at h2;cases h2
 |1=>
  injection h1 with h1;injection h1 with h1 h3;subst h1;subst h3;simp only[qaa.oG,qax,qaa.c]at h2 ⊢;cases hx:x.insts with
  |own l'=>rw[hx]at h2;injection h2 with h2;subst h2;rfl
  |fz l'=>rw[hx]at h2;cases h2
 |2=>simp[qaa.oT]at h1
 |3=>simp[qaa.oT]at h1
 |4=>
  injection h1 with h1;injection h1 with h1 h3;subst h1;subst h3;simp only[qaa.oG,qax,qaa.c]at h2 ⊢;cases hx:x.term.to with
  |own l'=>rw[hx]at h2;injection h2 with h2;subst h2;rfl
  |fz l'=>rw[hx]at h2;cases h2
 |5=>
  injection h1 with h1;injection h1 with h1 h3;subst h1;subst h3;simp only[qaa.oG,qax,qaa.c]at h2 ⊢;cases hx:x.term.qa4 with
  |own l'=>rw[hx]at h2;injection h2 with h2;subst h2;rfl
  |fz l'=>rw[hx]at h2;cases h2
 |6=>simp[qaa.oT]at h1
 |7=>simp[qaa.oT]at h1
 |8=>simp[qaa.oT]at h1
 |n+9=>simp[qaa.oT]at h1
theorem qaa.qj3(x:qaa)(j:Nat)(e:Ty)(l:List e.D)(h1:qaa.fT j=some e)(h2:qaa.fG x j e=some l):qaa.c x j=.ev (.fz e l):=by
 match j with
 |0=>
  injection h1 with h1;subst h1;simp only[qaa.fG,qax,qaa.c]at h2 ⊢;cases hx:x.params with
  |fz l'=>rw[hx]at h2;injection h2 with h2;subst h2;rfl
  |own l'=>rw[hx]at h2;cases h2
 |1=>
  injection h1 with h1;subst h1;simp only[qaa.fG,qax,qaa.c]at h2 ⊢;cases hx:x.insts with
  |fz l'=>rw[hx]at h2;injection h2 with h2;subst h2;rfl
  |own l'=>rw[hx]at h2;cases h2
 |2=>simp[qaa.fT]at h1
 |3=>simp[qaa.fT]at h1
 |4=>
  injection h1 with h1;subst h1;simp only[qaa.fG,qax,qaa.c]at h2 ⊢;cases hx:x.term.to with
  |fz l'=>rw[hx]at h2;injection h2 with h2;subst h2;rfl
  |own l'=>rw[hx]at h2;cases h2
 |5=>
  injection h1 with h1;subst h1;simp only[qaa.fG,qax,qaa.c]at h2 ⊢;cases hx:x.term.qa4 with
  |fz l'=>rw[hx]at h2;injection h2 with h2;subst h2;rfl
  |own l'=>rw[hx]at h2;cases h2
 |6=>simp[qaa.fT]at h1
 |7=>simp[qaa.fT]at h1
 |8=>simp[qaa.fT]at h1
 |n+9=>simp[qaa.fT]at h1
theorem qaa.same(x:qaa)(j:Nat)(t:TypeId)(e:Ty)(l:List e.D)(y:qaa)(t0:TypeId)(e0:Ty)(l0:List e0.D)(h:qaa.oS x j t e l=some y)(hc:qaa.c x j=.own t0 e0 l0):∃l1,qaa.c x j=.own t e l1:=by
 match j with
 |0=>
  simp only[qaa.oS]at h;cases hb:Nat.beq t 3 with
  |false=>rw[hb]at h;cases h
  |true=>
   rw[hb]at h;obtain rfl:=zg2 hb;simp only[cond_true]at h;split at h
   ·rename_i a ha;obtain⟨rfl,_⟩:=qa0 ha;simp only[qaa.c]at hc ⊢;cases hx:x.params with
    |own l1=>exact⟨l1,rfl⟩
    |fz l1=>rw[hx]at hc;cases hc
   ·cases h
 |1=>
  simp only[qaa.oS]at h;cases hb:Nat.beq t 46 with
  |false=>rw[hb]at h;cases h
  |true=>
   rw[hb]at h;obtain rfl:=zg2 hb;simp only[cond_true]at h;split at h
   ·rename_i a ha;obtain⟨rfl,_⟩:=qa0 ha;simp only[qaa.c]at hc ⊢;cases hx:x.insts with
    |own l1=>exact⟨l1,rfl⟩
    |fz l1=>rw[hx]at hc;cases hc
   ·cases h
 |2=>simp[qaa.oS]at h
 |3=>simp[qaa.oS]at h
 |4=>
  simp only[qaa.oS]at h;cases hb:Nat.beq t 51 with
  |false=>rw[hb]at h;cases h
  |true=>
   rw[hb]at h;obtain rfl:=zg2 hb;simp only[cond_true]at h;split at h
   ·rename_i a ha;obtain⟨rfl,_⟩:=qa0 ha;simp only[qaa.c]at hc ⊢;cases hx:x.term.to with
    |own l1=>exact⟨l1,rfl⟩
    |fz l1=>rw[hx]at hc;cases hc
   ·cases h
 |5=>
  simp only[qaa.oS]at h;cases hb:Nat.beq t 3 with
  |false=>rw[hb]at h;cases h
  |true=>
   rw[hb]at h;obtain rfl:=zg2 hb;simp only[cond_true]at h;split at h
   ·rename_i a ha;obtain⟨rfl,_⟩:=qa0 ha;simp only[qaa.c]at hc ⊢;cases hx:x.term.qa4 with
    |own l1=>exact⟨l1,rfl⟩
    |fz l1=>rw[hx]at hc;cases hc
   ·cases h
 |6=>simp[qaa.oS]at h
 |7=>simp[qaa.oS]at h
 |8=>simp[qaa.oS]at h
 |n+9=>simp[qaa.oS]at h
theorem qaa.qhs(j:Nat)(t:TypeId)(e:Ty)(l:List e.D)(h:qaa.c qaa.z j=.own t e l):l=[]:=by
 match j with
 |0|1|2|3|4|5|6|7|8=>cases h
 |n+9=>cases h
theorem qaa.qdu(x:qaa)(j:Nat)(u:EV)(h:qaa.c x j=.ev u):u.dat=true:=by
 match j with
 |0=>
  simp only[qaa.c]at h;cases hx:x.params<;>rw[hx]at h
  ·cases h
  ·injection h with h;subst h;rfl
 |1=>
  simp only[qaa.c]at h;cases hx:x.insts<;>rw[hx]at h
  ·cases h
  ·injection h with h;subst h;rfl
 |2|3=>injection h with h;subst h;rfl
 |4=>
  simp only[qaa.c]at h;cases hx:x.term.to<;>rw[hx]at h
  ·cases h
  ·injection h with h;subst h;rfl
 |5=>
  simp only[qaa.c]at h;cases hx:x.term.qa4<;>rw[hx]at h
  ·cases h
  ·injection h with h;subst h;rfl
 |6|7|8=>injection h with h;subst h;rfl
 |n+9=>injection h with h;subst h;rfl
def LsI.c(x:LsI):Nat->Cell
 |0=>match x.v with
  |.own l=>.own 3 (.int .i64) l
  |.gone=>.ev .un
 |_=>.ev .un
def LsI.s(x:LsI)(j:Nat)(v:EV):Option LsI:=match j with
 |_=>none
def LsI.oS(x:LsI)(j:Nat)(t:TypeId)(e:Ty)(l:List e.D):Option LsI:=match j with
 | 0=>bif Nat.beq t 3 then(match qbt List e (.int .i64) l with
  |some y=>some { x with v:=.own y }
  | none=>none)else none
 |_=>none
def LsI.k(x:LsI)(j:Nat)(t:TypeId)(e:Ty)(l:List e.D):Option LsI:=match LsI.c x j with
 |.own _ _ _=>LsI.oS x j t e l
 |.ev _=>none
def LsI.oT:Nat->Option (TypeId×Ty)
 |0=>some (3,(.int .i64))
 |_=>none
def LsI.fT:Nat->Option Ty
 |_=>none
def LsI.oG(x:LsI)(j:Nat)(e:Ty):Option (List e.D):=match j with
 | 0=>(match qbt (fun X=>Option (List X)) (.int .i64) e (Sp.gnL x.v)with
  |some o=>o
  | none=>none)
 |_=>none
def LsI.fG(x:LsI)(j:Nat)(e:Ty):Option (List e.D):=match j with
 |_=>none
theorem LsI.qgp(x:LsI)(j:Nat)(v:EV)(y:LsI)(h:LsI.s x j v=some y):(∃u0,LsI.c x j=.ev u0)/\(∃u,LsI.c y j=.ev u/\∀len,Wk (toV len v) (toV len u))/\∀j',j'≠j->LsI.c y j'=LsI.c x j':=by
 match j with
 |0=>simp[LsI.s]at h
 |n+1=>simp[LsI.s]at h
theorem LsI.qfx(x:LsI)(j:Nat)(t:TypeId)(e:Ty)(l:List e.D)(y:LsI)(h:LsI.oS x j t e l=some y):LsI.c y j=.own t e l/\∀j',j'≠j->LsI.c y j'=LsI.c x j':=by
 match j with
 |0=>
  simp only[LsI.oS]at h;cases hb:Nat.beq t 3 with
  |false=>rw[hb]at h;cases h
  |true=>
   rw[hb]at h;obtain rfl:=zg2 hb;simp only[cond_true]at h;split at h
   ·rename_i a ha;injection h with h;subst h;obtain⟨rfl,ha⟩:=qa0 ha;obtain rfl:=eq_of_heq ha;refine⟨rfl,fun j' hj=>?_⟩
    match j',hj with
    |0,hj=>exact absurd rfl hj
    |n+1,_=>rfl
   ·cases h
 |n+1=>simp[LsI.oS]at h
theorem LsI.qfy(x:LsI)(j:Nat)(t:TypeId)(e:Ty)(l:List e.D)(h1:LsI.oT j=some (t,e))(h2:LsI.oG x j e=some l):LsI.c x j=.own t e l:=by
 match j with
 |0=>
  injection h1 with h1;injection h1 with h1 h3;subst h1;subst h3;simp only[LsI.oG,qax,LsI.c]at h2 ⊢;cases hx:x.v with
  |own l'=>rw[hx]at h2;injection h2 with h2;subst h2;rfl
  |gone=>rw[hx]at h2;cases h2
 |n+1=>simp[LsI.oT]at h1
theorem LsI.qj3(x:LsI)(j:Nat)(e:Ty)(l:List e.D)(h1:LsI.fT j=some e)(h2:LsI.fG x j e=some l):LsI.c x j=.ev (.fz e l):=by
 match j with
 |0=>simp[LsI.fT]at h1
 |n+1=>simp[LsI.fT]at h1
theorem LsI.same(x:LsI)(j:Nat)(t:TypeId)(e:Ty)(l:List e.D)(y:LsI)(t0:TypeId)(e0:Ty)(l0:List e0.D)(h:LsI.oS x j t e l=some y)(hc:LsI.c x j=.own t0 e0 l0):∃l1,LsI.c x j=.own t e l1:=by
 match j with
 |0=>
  simp only[LsI.oS]at h;cases hb:Nat.beq t 3 with
  |false=>rw[hb]at h;cases h
  |true=>
   rw[hb]at h;obtain rfl:=zg2 hb;simp only[cond_true]at h;split at h
   ·rename_i a ha;obtain⟨rfl,_⟩:=qa0 ha;simp only[LsI.c]at hc ⊢;cases hx:x.v with
    |own l1=>exact⟨l1,rfl⟩
    |gone=>rw[hx]at hc;cases hc
   ·cases h
 |n+1=>simp[LsI.oS]at h
theorem LsI.qhs(j:Nat)(t:TypeId)(e:Ty)(l:List e.D)(h:LsI.c LsI.z j=.own t e l):l=[]:=by
 match j with
 |0=>cases h;rfl
 |n+1=>cases h
theorem LsI.qdu(x:LsI)(j:Nat)(u:EV)(h:LsI.c x j=.ev u):u.dat=true:=by
 match j with
 |0=>
  simp only[LsI.c]at h;cases hx:x.v<;>rw[hx]at h
  ·cases h
  ·injection h with h;subst h;rfl
 |n+1=>injection h with h;subst h;rfl
def qat.c(x:qat):Nat->Cell
 |0=>.ev (.i .i64 (x.kind))
 |1=>.ev (.i .i64 (x.cond))
 |2=>match x.to with
  |.own l=>.own 51 (.st 9) l
  |.fz l=>.ev (.fz (.st 1) l)
  |.gone=>.ev .un
 |3=>match x.qa4 with
  |.own l=>.own 3 (.int .i64) l
  |.fz l=>.ev (.fz (.int .i64) l)
  |.gone=>.ev .un
 |_=>.ev .un
def qat.s(x:qat)(j:Nat)(v:EV):Option qat:=match j with
 |0=>match qcg (.int .i64) v with
  |some y=>some { x with kind:=y }
  |none=>none
 |1=>match qcg (.int .i64) v with
  |some y=>some { x with cond:=y }
  |none=>none
 |_=>none
def qat.oS(x:qat)(j:Nat)(t:TypeId)(e:Ty)(l:List e.D):Option qat:=match j with
 | 2=>bif Nat.beq t 51 then(match qbt List e (.st 9) l with
  |some y=>some { x with to:=.own y }
  | none=>none)else none
 | 3=>bif Nat.beq t 3 then(match qbt List e (.int .i64) l with
  |some y=>some { x with qa4:=.own y }
  | none=>none)else none
 |_=>none
def qat.k(x:qat)(j:Nat)(t:TypeId)(e:Ty)(l:List e.D):Option qat:=match qat.c x j with
 |.own _ _ _=>qat.oS x j t e l
 |.ev _=>none
def qat.oT:Nat->Option (TypeId×Ty)
 |2=>some (51,(.st 9))
 |3=>some (3,(.int .i64))
 |_=>none
def qat.fT:Nat->Option Ty
 |2=>some (.st 1)
 |3=>some (.int .i64)
 |_=>none
def qat.oG(x:qat)(j:Nat)(e:Ty):Option (List e.D):=match j with
 | 2=>(match qbt (fun X=>Option (List X)) (.st 9) e (Sp.qjh x.to)with
  |some o=>o
  | none=>none)
 | 3=>(match qbt (fun X=>Option (List X)) (.int .i64) e (Sp.qjh x.qa4)with
  |some o=>o
  | none=>none)
 |_=>none
def qat.fG(x:qat)(j:Nat)(e:Ty):Option (List e.D):=match j with
 | 2=>(match qbt (fun X=>Option (List X)) (.st 1) e (Sp.q95 x.to)with
  |some o=>o
  | none=>none)
 | 3=>(match qbt (fun X=>Option (List X)) (.int .i64) e (Sp.q95 x.qa4)with
  |some o=>o
  | none=>none)
 |_=>none
theorem qat.qgp(x:qat)(j:Nat)(v:EV)(y:qat)(h:qat.s x j v=some y):(∃u0,qat.c x j=.ev u0)/\(∃u,qat.c y j=.ev u/\∀len,Wk (toV len v) (toV len u))/\∀j',j'≠j->qat.c y j'=qat.c x j':=by
 match j with
 |0=>
  simp only[qat.s]at h;split at h
  ·rename_i a ha;injection h with h;subst h;refine⟨⟨_,rfl⟩,⟨_,rfl,qal ha⟩,fun j' hj=>?_⟩
   match j',hj with
   |0,hj=>exact absurd rfl hj
   |1,hj|2,hj|3,hj=>exact rfl
   |n+4,_=>rfl
  ·cases h
 |1=>
  simp only[qat.s]at h;split at h
  ·rename_i a ha;injection h with h;subst h;refine⟨⟨_,rfl⟩,⟨_,rfl,qal ha⟩,fun j' hj=>?_⟩
   match j',hj with
   |0,hj=>exact rfl
   |1,hj=>exact absurd rfl hj
   |2,hj|3,hj=>exact rfl
   |n+4,_=>rfl
  ·cases h
 |2=>simp[qat.s]at h
 |3=>simp[qat.s]at h
 |n+4=>simp[qat.s]at h
theorem qat.qfx(x:qat)(j:Nat)(t:TypeId)(e:Ty)(l:List e.D)(y:qat)(h:qat.oS x j t e l=some y):qat.c y j=.own t e l/\∀j',j'≠j->qat.c y j'=qat.c x j':=by
 match j with
 |0=>simp[qat.oS]at h
 |1=>simp[qat.oS]at h
 |2=>
  simp only[qat.oS]at h;cases hb:Nat.beq t 51 with
  |false=>rw[hb]at h;cases h
  |true=>
   rw[hb]at h;obtain rfl:=zg2 hb;simp only[cond_true]at h;split at h
   ·rename_i a ha;injection h with h;subst h;obtain⟨rfl,ha⟩:=qa0 ha;obtain rfl:=eq_of_heq ha;refine⟨rfl,fun j' hj=>?_⟩
    match j',hj with
    |0,hj|1,hj=>exact rfl
    |2,hj=>exact absurd rfl hj
    |3,hj=>exact rfl
    |n+4,_=>rfl
   ·cases h
 |3=>
  simp only[qat.oS]at h;cases hb:Nat.beq t 3 with
  |false=>rw[hb]at h;cases h
  |true=>
   rw[hb]at h;obtain rfl:=zg2 hb;simp only[cond_true]at h;split at h
   ·rename_i a ha;injection h with h;subst h;obtain⟨rfl,ha⟩:=qa0 ha;obtain rfl:=eq_of_heq ha;refine⟨rfl,fun j' hj=>?_⟩
    match j',hj with
    |0,hj|1,hj|2,hj=>exact rfl
    |3,hj=>exact absurd rfl hj
    |n+4,_=>rfl
   ·cases h
 |n+4=>simp[qat.oS]at h
theorem qat.qfy(x:qat)(j:Nat)(t:TypeId)(e:Ty)(l:List e.D)(h1:qat.oT j=some (t,e))(h2:qat.oG x j e=some l):qat.c x j=.own t e l:=by
 match j with
 |0=>simp[qat.oT]at h1
 |1=>simp[qat.oT]at h1
 |2=>
  injection h1 with h1;injection h1 with h1 h3;subst h1;subst h3;simp only[qat.oG,qax,qat.c]at h2 ⊢;cases hx:x.to with
  |own l'=>rw[hx]at h2;injection h2 with h2;subst h2;rfl
  |fz l'=>rw[hx]at h2;cases h2
  |gone=>rw[hx]at h2;cases h2
 |3=>
  injection h1 with h1;injection h1 with h1 h3;subst h1;subst h3;simp only[qat.oG,qax,qat.c]at h2 ⊢;cases hx:x.qa4 with
  |own l'=>rw[hx]at h2;injection h2 with h2;subst h2;rfl
  |fz l'=>rw[hx]at h2;cases h2
  |gone=>rw[hx]at h2;cases h2
 |n+4=>simp[qat.oT]at h1
theorem qat.qj3(x:qat)(j:Nat)(e:Ty)(l:List e.D)(h1:qat.fT j=some e)(h2:qat.fG x j e=some l):qat.c x j=.ev (.fz e l):=by
 match j with
 |0=>simp[qat.fT]at h1
 |1=>simp[qat.fT]at h1
 |2=>
  injection h1 with h1;subst h1;simp only[qat.fG,qax,qat.c]at h2 ⊢;cases hx:x.to with
  |fz l'=>rw[hx]at h2;injection h2 with h2;subst h2;rfl
  |own l'=>rw[hx]at h2;cases h2
  |gone=>rw[hx]at h2;cases h2
 |3=>
  injection h1 with h1;subst h1;simp only[qat.fG,qax,qat.c]at h2 ⊢;cases hx:x.qa4 with
  |fz l'=>rw[hx]at h2;injection h2 with h2;subst h2;rfl
  |own l'=>rw[hx]at h2;cases h2
  |gone=>rw[hx]at h2;cases h2
 |n+4=>simp[qat.fT]at h1
theorem qat.same(x:qat)(j:Nat)(t:TypeId)(e:Ty)(l:List e.D)(y:qat)(t0:TypeId)(e0:Ty)(l0:List e0.D)(h:qat.oS x j t e l=some y)(hc:qat.c x j=.own t0 e0 l0):∃l1,qat.c x j=.own t e l1:=by
 match j with
 |0=>simp[qat.oS]at h
 |1=>simp[qat.oS]at h
 |2=>
  simp only[qat.oS]at h;cases hb:Nat.beq t 51 with
  |false=>rw[hb]at h;cases h
  |true=>
   rw[hb]at h;obtain rfl:=zg2 hb;simp only[cond_true]at h;split at h
   ·rename_i a ha;obtain⟨rfl,_⟩:=qa0 ha;simp only[qat.c]at hc ⊢;cases hx:x.to with
    |own l1=>exact⟨l1,rfl⟩
    |fz l1=>rw[hx]at hc;cases hc
    |gone=>rw[hx]at hc;cases hc
   ·cases h
 |3=>
  simp only[qat.oS]at h;cases hb:Nat.beq t 3 with
  |false=>rw[hb]at h;cases h
  |true=>
   rw[hb]at h;obtain rfl:=zg2 hb;simp only[cond_true]at h;split at h
   ·rename_i a ha;obtain⟨rfl,_⟩:=qa0 ha;simp only[qat.c]at hc ⊢;cases hx:x.qa4 with
    |own l1=>exact⟨l1,rfl⟩
    |fz l1=>rw[hx]at hc;cases hc
    |gone=>rw[hx]at hc;cases hc
   ·cases h
 |n+4=>simp[qat.oS]at h
theorem qat.qhs(j:Nat)(t:TypeId)(e:Ty)(l:List e.D)(h:qat.c qat.z j=.own t e l):l=[]:=by
 match j with
 |0|1|2|3=>cases h
 |n+4=>cases h
theorem qat.qdu(x:qat)(j:Nat)(u:EV)(h:qat.c x j=.ev u):u.dat=true:=by
 match j with
 |0|1=>injection h with h;subst h;rfl
 |2=>
  simp only[qat.c]at h;cases hx:x.to<;>rw[hx]at h
  ·cases h
  ·injection h with h;subst h;rfl
  ·injection h with h;subst h;rfl
 |3=>
  simp only[qat.c]at h;cases hx:x.qa4<;>rw[hx]at h
  ·cases h
  ·injection h with h;subst h;rfl
  ·injection h with h;subst h;rfl
 |n+4=>injection h with h;subst h;rfl
def qac.c(x:qac):Nat->Cell
 |0=>match x.params with
  |.own l=>.own 3 (.int .i64) l
  |.fz l=>.ev (.fz (.int .i64) l)
  |.gone=>.ev .un
 |1=>match x.insts with
  |.own l=>.own 46 (.st 8) l
  |.fz l=>.ev (.fz (.st 0) l)
  |.gone=>.ev .un
 |2=>.ev (.i .i64 (x.term.kind))
 |3=>.ev (.i .i64 (x.term.cond))
 |4=>match x.term.to with
  |.own l=>.own 51 (.st 9) l
  |.fz l=>.ev (.fz (.st 1) l)
  |.gone=>.ev .un
 |5=>match x.term.qa4 with
  |.own l=>.own 3 (.int .i64) l
  |.fz l=>.ev (.fz (.int .i64) l)
  |.gone=>.ev .un
 |6=>.ev (.i .i64 (x.qar))
 |7=>.ev (.i .i64 (x.qba))
 |8=>.ev (.i .i64 (x.line))
 |_=>.ev .un
def qac.s(x:qac)(j:Nat)(v:EV):Option qac:=match j with
 |2=>match qcg (.int .i64) v with
  |some y=>some { x with term:={ x.term with kind:=y } }
  |none=>none
 |3=>match qcg (.int .i64) v with
  |some y=>some { x with term:={ x.term with cond:=y } }
  |none=>none
 |6=>match qcg (.int .i64) v with
  |some y=>some { x with qar:=y }
  |none=>none
 |7=>match qcg (.int .i64) v with
  |some y=>some { x with qba:=y }
  |none=>none
 |8=>match qcg (.int .i64) v with
  |some y=>some { x with line:=y }
  |none=>none
 |_=>none
def qac.oS(x:qac)(j:Nat)(t:TypeId)(e:Ty)(l:List e.D):Option qac:=match j with
 | 0=>bif Nat.beq t 3 then(match qbt List e (.int .i64) l with
  |some y=>some { x with params:=.own y }
  | none=>none)else none
 | 1=>bif Nat.beq t 46 then(match qbt List e (.st 8) l with
  |some y=>some { x with insts:=.own y }
  | none=>none)else none
 | 4=>bif Nat.beq t 51 then(match qbt List e (.st 9) l with
  |some y=>some { x with term:={ x.term with to:=.own y } }
  | none=>none)else none
 | 5=>bif Nat.beq t 3 then(match qbt List e (.int .i64) l with
  |some y=>some { x with term:={ x.term with qa4:=.own y } }
  | none=>none)else none
 |_=>none
def qac.k(x:qac)(j:Nat)(t:TypeId)(e:Ty)(l:List e.D):Option qac:=match qac.c x j with
 |.own _ _ _=>qac.oS x j t e l
 |.ev _=>none
def qac.oT:Nat->Option (TypeId×Ty)
 |0=>some (3,(.int .i64))
 |1=>some (46,(.st 8))
 |4=>some (51,(.st 9))
 |5=>some (3,(.int .i64))
 |_=>none
def qac.fT:Nat->Option Ty
 |0=>some (.int .i64)
 |1=>some (.st 0)
 |4=>some (.st 1)
 |5=>some (.int .i64)
 |_=>none
def qac.oG(x:qac)(j:Nat)(e:Ty):Option (List e.D):=match j with
 | 0=>(match qbt (fun X=>Option (List X)) (.int .i64) e (Sp.qjh x.params)with
  |some o=>o
  | none=>none)
 | 1=>(match qbt (fun X=>Option (List X)) (.st 8) e (Sp.qjh x.insts)with
  |some o=>o
  | none=>none)
 | 4=>(match qbt (fun X=>Option (List X)) (.st 9) e (Sp.qjh x.term.to)with
  |some o=>o
  | none=>none)
 | 5=>(match qbt (fun X=>Option (List X)) (.int .i64) e (Sp.qjh x.term.qa4)with
  |some o=>o
  | none=>none)
 |_=>none
def qac.fG(x:qac)(j:Nat)(e:Ty):Option (List e.D):=match j with
 | 0=>(match qbt (fun X=>Option (List X)) (.int .i64) e (Sp.q95 x.params)with
  |some o=>o
  | none=>none)
 | 1=>(match qbt (fun X=>Option (List X)) (.st 0) e (Sp.q95 x.insts)with
  |some o=>o
  | none=>none)
 | 4=>(match qbt (fun X=>Option (List X)) (.st 1) e (Sp.q95 x.term.to)with
  |some o=>o
  | none=>none)
 | 5=>(match qbt (fun X=>Option (List X)) (.int .i64) e (Sp.q95 x.term.qa4)with
  |some o=>o
  | none=>none)
 |_=>none
theorem qac.qgp(x:qac)(j:Nat)(v:EV)(y:qac)(h:qac.s x j v=some y):(∃u0,qac.c x j=.ev u0)/\(∃u,qac.c y j=.ev u/\∀len,Wk (toV len v) (toV len u))/\∀j',j'≠j->qac.c y j'=qac.c x j':=by
 match j with
 |0=>simp[qac.s]at h
 |1=>simp[qac.s]at h
 |2=>
  simp only[qac.s]at h;split at h
  ·rename_i a ha;injection h with h;subst h;refine⟨⟨_,rfl⟩,⟨_,rfl,qal ha⟩,fun j' hj=>?_⟩
   match j',hj with
   |0,hj|1,hj=>exact rfl
   |2,hj=>exact absurd rfl hj
   |3,hj|4,hj|5,hj|6,hj|7,hj|8,hj=>exact rfl
   |n+9,_=>rfl
  ·cases h
 |3=>
  simp only[qac.s]at h;split at h
  ·rename_i a ha;injection h with h;subst h;refine⟨⟨_,rfl⟩,⟨_,rfl,qal ha⟩,fun j' hj=>?_⟩
   match j',hj with
   |0,hj|1,hj|2,hj=>exact rfl
   |3,hj=>exact absurd rfl hj
   |4,hj|5,hj|6,hj|7,hj|8,hj=>exact rfl
   |n+9,_=>rfl
  ·cases h
 |4=>simp[qac.s]at h
 |5=>simp[qac.s]at h
 |6=>
  simp only[qac.s]at h;split at h
  ·rename_i a ha;injection h with h;subst h;refine⟨⟨_,rfl⟩,⟨_,rfl,qal ha⟩,fun j' hj=>?_⟩
   match j',hj with
   |0,hj|1,hj|2,hj|3,hj|4,hj|5,hj=>exact rfl
   |6,hj=>exact absurd rfl hj
   |7,hj|8,hj=>exact rfl
   |n+9,_=>rfl
  ·cases h
 |7=>
  simp only[qac.s]at h;split at h
  ·rename_i a ha;injection h with h;subst h;refine⟨⟨_,rfl⟩,⟨_,rfl,qal ha⟩,fun j' hj=>?_⟩
   match j',hj with
   |0,hj|1,hj|2,hj|3,hj|4,hj|5,hj|6,hj=>exact rfl
   |7,hj=>exact absurd rfl hj
   |8,hj=>exact rfl
   |n+9,_=>rfl
  ·cases h
 |8=>
  simp only[qac.s]at h;split at h
  ·rename_i a ha;injection h with h;subst h;refine⟨⟨_,rfl⟩,⟨_,rfl,qal ha⟩,fun j' hj=>?_⟩
   match j',hj with
   |0,hj|1,hj|2,hj|3,hj|4,hj|5,hj|6,hj|7,hj=>exact rfl
   |8,hj=>exact absurd rfl hj
   |n+9,_=>rfl
  ·cases h
 |n+9=>simp[qac.s]at h
theorem qac.qfx(x:qac)(j:Nat)(t:TypeId)(e:Ty)(l:List e.D)(y:qac)(h:qac.oS x j t e l=some y):qac.c y j=.own t e l/\∀j',j'≠j->qac.c y j'=qac.c x j':=by
 match j with
 |0=>
  simp only[qac.oS]at h;cases hb:Nat.beq t 3 with
  |false=>rw[hb]at h;cases h
  |true=>
   rw[hb]at h;obtain rfl:=zg2 hb;simp only[cond_true]at h;split at h
   ·rename_i a ha;injection h with h;subst h;obtain⟨rfl,ha⟩:=qa0 ha;obtain rfl:=eq_of_heq ha;refine⟨rfl,fun j' hj=>?_⟩
    match j',hj with
    |0,hj=>exact absurd rfl hj
    |1,hj|2,hj|3,hj|4,hj|5,hj|6,hj|7,hj|8,hj=>exact rfl
    |n+9,_=>rfl
   ·cases h
 |1=>
  simp only[qac.oS]at h;cases hb:Nat.beq t 46 with
  |false=>rw[hb]at h;cases h
  |true=>
   rw[hb]at h;obtain rfl:=zg2 hb;simp only[cond_true]at h;split at h
   ·rename_i a ha;injection h with h;subst h;obtain⟨rfl,ha⟩:=qa0 ha;obtain rfl:=eq_of_heq ha;refine⟨rfl,fun j' hj=>?_⟩
    match j',hj with
    |0,hj=>exact rfl
    |1,hj=>exact absurd rfl hj
    |2,hj|3,hj|4,hj|5,hj|6,hj|7,hj|8,hj=>exact rfl
    |n+9,_=>rfl
   ·cases h
 |2=>simp[qac.oS]at h
 |3=>simp[qac.oS]at h
 |4=>
  simp only[qac.oS]at h;cases hb:Nat.beq t 51 with
  |false=>rw[hb]at h;cases h
  |true=>
   rw[hb]at h;obtain rfl:=zg2 hb;simp only[cond_true]at h;split at h
   ·rename_i a ha;injection h with h;subst h;obtain⟨rfl,ha⟩:=qa0 ha;obtain rfl:=eq_of_heq ha;refine⟨rfl,fun j' hj=>?_⟩
    match j',hj with
    |0,hj|1,hj|2,hj|3,hj=>exact rfl
    |4,hj=>exact absurd rfl hj
    |5,hj|6,hj|7,hj|8,hj=>exact rfl
    |n+9,_=>rfl
   ·cases h
 |5=>
  simp only[qac.oS]at h;cases hb:Nat.beq t 3 with
  |false=>rw[hb]at h;cases h
  |true=>
   rw[hb]at h;obtain rfl:=zg2 hb;simp only[cond_true]at h;split at h
   ·rename_i a ha;injection h with h;subst h;obtain⟨rfl,ha⟩:=qa0 ha;obtain rfl:=eq_of_heq ha;refine⟨rfl,fun j' hj=>?_⟩
    match j',hj with
    |0,hj|1,hj|2,hj|3,hj|4,hj=>exact rfl
    |5,hj=>exact absurd rfl hj
    |6,hj|7,hj|8,hj=>exact rfl
    |n+9,_=>rfl
   ·cases h
 |6=>simp[qac.oS]at h
 |7=>simp[qac.oS]at h
 |8=>simp[qac.oS]at h
 |n+9=>simp[qac.oS]at h
theorem qac.qfy(x:qac)(j:Nat)(t:TypeId)(e:Ty)(l:List e.D)(h1:qac.oT j=some (t,e))(h2:qac.oG x j e=some l):qac.c x j=.own t e l:=by
 match j with
 |0=>
  injection h1 with h1;injection h1 with h1 h3;subst h1;subst h3;simp only[qac.oG,qax,qac.c]at h2 ⊢;cases hx:x.params with
  |own l'=>rw[hx]at h2;injection h2 with h2;subst h2;rfl
  |fz l'=>rw[hx]at h2;cases h2
  |gone=>rw[hx]at h2;cases h2
 |1=>
  injection h1 with h1;injection h1 with h1 h3;subst h1;subst h3;simp only[qac.oG,qax,qac.c]at h2 ⊢;cases hx:x.insts with
  |own l'=>rw[hx]at h2;injection h2 with h2;subst h2;rfl
  |fz l'=>rw[hx]at h2;cases h2
  |gone=>rw[hx]at h2;cases h2
 |2=>simp[qac.oT]at h1
 |3=>simp[qac.oT]at h1
 |4=>
  injection h1 with h1;injection h1 with h1 h3;subst h1;subst h3;simp only[qac.oG,qax,qac.c]at h2 ⊢;cases hx:x.term.to with
  |own l'=>rw[hx]at h2;injection h2 with h2;subst h2;rfl
  |fz l'=>rw[hx]at h2;cases h2
  |gone=>rw[hx]at h2;cases h2
 |5=>
  injection h1 with h1;injection h1 with h1 h3;subst h1;subst h3;simp only[qac.oG,qax,qac.c]at h2 ⊢;cases hx:x.term.qa4 with
  |own l'=>rw[hx]at h2;injection h2 with h2;subst h2;rfl
  |fz l'=>rw[hx]at h2;cases h2
  |gone=>rw[hx]at h2;cases h2
 |6=>simp[qac.oT]at h1
 |7=>simp[qac.oT]at h1
 |8=>simp[qac.oT]at h1
 |n+9=>simp[qac.oT]at h1
theorem qac.qj3(x:qac)(j:Nat)(e:Ty)(l:List e.D)(h1:qac.fT j=some e)(h2:qac.fG x j e=some l):qac.c x j=.ev (.fz e l):=by
 match j with
 |0=>
  injection h1 with h1;subst h1;simp only[qac.fG,qax,qac.c]at h2 ⊢;cases hx:x.params with
  |fz l'=>rw[hx]at h2;injection h2 with h2;subst h2;rfl
  |own l'=>rw[hx]at h2;cases h2
  |gone=>rw[hx]at h2;cases h2
 |1=>
  injection h1 with h1;subst h1;simp only[qac.fG,qax,qac.c]at h2 ⊢;cases hx:x.insts with
  |fz l'=>rw[hx]at h2;injection h2 with h2;subst h2;rfl
  |own l'=>rw[hx]at h2;cases h2
  |gone=>rw[hx]at h2;cases h2
 |2=>simp[qac.fT]at h1
 |3=>simp[qac.fT]at h1
 |4=>
  injection h1 with h1;subst h1;simp only[qac.fG,qax,qac.c]at h2 ⊢;cases hx:x.term.to with
  |fz l'=>rw[hx]at h2;injection h2 with h2;subst h2;rfl
  |own l'=>rw[hx]at h2;cases h2
  |gone=>rw[hx]at h2;cases h2
 |5=>
  injection h1 with h1;subst h1;simp only[qac.fG,qax,qac.c]at h2 ⊢;cases hx:x.term.qa4 with
  |fz l'=>rw[hx]at h2;injection h2 with h2;subst h2;rfl
  |own l'=>rw[hx]at h2;cases h2
  |gone=>rw[hx]at h2;cases h2
 |6=>simp[qac.fT]at h1
 |7=>simp[qac.fT]at h1
 |8=>simp[qac.fT]at h1
 |n+9=>simp[qac.fT]at h1
theorem qac.same(x:qac)(j:Nat)(t:TypeId)(e:Ty)(l:List e.D)(y:qac)(t0:TypeId)(e0:Ty)(l0:List e0.D)(h:qac.oS x j t e l=some y)(hc:qac.c x j=.own t0 e0 l0):∃l1,qac.c x j=.own t e l1:=by
 match j with
 |0=>
  simp only[qac.oS]at h;cases hb:Nat.beq t 3 with
  |false=>rw[hb]at h;cases h
  |true=>
   rw[hb]at h;obtain rfl:=zg2 hb;simp only[cond_true]at h;split at h
   ·rename_i a ha;obtain⟨rfl,_⟩:=qa0 ha;simp only[qac.c]at hc ⊢;cases hx:x.params with
    |own l1=>exact⟨l1,rfl⟩
    |fz l1=>rw[hx]at hc;cases hc
    |gone=>rw[hx]at hc;cases hc
   ·cases h
 |1=>
  simp only[qac.oS]at h;cases hb:Nat.beq t 46 with
  |false=>rw[hb]at h;cases h
  |true=>
   rw[hb]at h;obtain rfl:=zg2 hb;simp only[cond_true]at h;split at h
   ·rename_i a ha;obtain⟨rfl,_⟩:=qa0 ha;simp only[qac.c]at hc ⊢;cases hx:x.insts with
    |own l1=>exact⟨l1,rfl⟩
    |fz l1=>rw[hx]at hc;cases hc
    |gone=>rw[hx]at hc;cases hc
   ·cases h
 |2=>simp[qac.oS]at h
 |3=>simp[qac.oS]at h
 |4=>
  simp only[qac.oS]at h;cases hb:Nat.beq t 51 with
  |false=>rw[hb]at h;cases h
  |true=>
   rw[hb]at h;obtain rfl:=zg2 hb;simp only[cond_true]at h;split at h
   ·rename_i a ha;obtain⟨rfl,_⟩:=qa0 ha;simp only[qac.c]at hc ⊢;cases hx:x.term.to with
    |own l1=>exact⟨l1,rfl⟩
    |fz l1=>rw[hx]at hc;cases hc
    |gone=>rw[hx]at hc;cases hc
   ·cases h
 |5=>
  simp only[qac.oS]at h;cases hb:Nat.beq t 3 with
  |false=>rw[hb]at h;cases h
  |true=>
   rw[hb]at h;obtain rfl:=zg2 hb;simp only[cond_true]at h;split at h
   ·rename_i a ha;obtain⟨rfl,_⟩:=qa0 ha;simp only[qac.c]at hc ⊢;cases hx:x.term.qa4 with
    |own l1=>exact⟨l1,rfl⟩
    |fz l1=>rw[hx]at hc;cases hc
    |gone=>rw[hx]at hc;cases hc
   ·cases h
 |6=>simp[qac.oS]at h
 |7=>simp[qac.oS]at h
 |8=>simp[qac.oS]at h
 |n+9=>simp[qac.oS]at h
theorem qac.qhs(j:Nat)(t:TypeId)(e:Ty)(l:List e.D)(h:qac.c qac.z j=.own t e l):l=[]:=by
 match j with
 |0|1|2|3|4|5|6|7|8=>cases h
 |n+9=>cases h
theorem qac.qdu(x:qac)(j:Nat)(u:EV)(h:qac.c x j=.ev u):u.dat=true:=by
 match j with
 |0=>
  simp only[qac.c]at h;cases hx:x.params<;>rw[hx]at h
  ·cases h
  ·injection h with h;subst h;rfl
  ·injection h with h;subst h;rfl
 |1=>
  simp only[qac.c]at h;cases hx:x.insts<;>rw[hx]at h
  ·cases h
  ·injection h with h;subst h;rfl
  ·injection h with h;subst h;rfl
 |2|3=>injection h with h;subst h;rfl
 |4=>
  simp only[qac.c]at h;cases hx:x.term.to<;>rw[hx]at h
  ·cases h
  ·injection h with h;subst h;rfl
  ·injection h with h;subst h;rfl
 |5=>
  simp only[qac.c]at h;cases hx:x.term.qa4<;>rw[hx]at h
  ·cases h
  ·injection h with h;subst h;rfl
  ·injection h with h;subst h;rfl
 |6|7|8=>injection h with h;subst h;rfl
 |n+9=>injection h with h;subst h;rfl
def qag.gS(x:qag)(j:Nat):Option qag:=match j with
 |_=>none
theorem qag.qj1(x:qag)(j:Nat)(y:qag)(h:qag.gS x j=some y):qag.c y j=.ev .un/\∀j',j'≠j->qag.c y j'=qag.c x j':=by
 match j with
 |0=>simp[qag.gS]at h
 |1=>simp[qag.gS]at h
 |2=>simp[qag.gS]at h
 |3=>simp[qag.gS]at h
 |4=>simp[qag.gS]at h
 |n+5=>simp[qag.gS]at h
def qaj.gS(x:qaj)(j:Nat):Option qaj:=match j with
 |_=>none
theorem qaj.qj1(x:qaj)(j:Nat)(y:qaj)(h:qaj.gS x j=some y):qaj.c y j=.ev .un/\∀j',j'≠j->qaj.c y j'=qaj.c x j':=by
 match j with
 |0=>simp[qaj.gS]at h
 |1=>simp[qaj.gS]at h
 |n+2=>simp[qaj.gS]at h
def qaq.gS(x:qaq)(j:Nat):Option qaq:=match j with
 |_=>none
theorem qaq.qj1(x:qaq)(j:Nat)(y:qaq)(h:qaq.gS x j=some y):qaq.c y j=.ev .un/\∀j',j'≠j->qaq.c y j'=qaq.c x j':=by
 match j with
 |0=>simp[qaq.gS]at h
 |1=>simp[qaq.gS]at h
 |2=>simp[qaq.gS]at h
 |3=>simp[qaq.gS]at h
 |n+4=>simp[qaq.gS]at h
def qaa.gS(x:qaa)(j:Nat):Option qaa:=match j with
 |_=>none
theorem qaa.qj1(x:qaa)(j:Nat)(y:qaa)(h:qaa.gS x j=some y):qaa.c y j=.ev .un/\∀j',j'≠j->qaa.c y j'=qaa.c x j':=by
 match j with
 |0=>simp[qaa.gS]at h
 |1=>simp[qaa.gS]at h
 |2=>simp[qaa.gS]at h
 |3=>simp[qaa.gS]at h
 |4=>simp[qaa.gS]at h
 |5=>simp[qaa.gS]at h
 |6=>simp[qaa.gS]at h
 |7=>simp[qaa.gS]at h
 |8=>simp[qaa.gS]at h
 |n+9=>simp[qaa.gS]at h
def LsI.gS(x:LsI)(j:Nat):Option LsI:=match j with
 |0=>some { x with v:=.gone }
 |_=>none
theorem LsI.qj1(x:LsI)(j:Nat)(y:LsI)(h:LsI.gS x j=some y):LsI.c y j=.ev .un/\∀j',j'≠j->LsI.c y j'=LsI.c x j':=by
 match j with
 |0=>
  injection h with h;subst h;refine⟨rfl,fun j' hj=>?_⟩
  match j',hj with
  |0,hj=>exact absurd rfl hj
  |n+1,_=>rfl
 |n+1=>simp[LsI.gS]at h
def qat.gS(x:qat)(j:Nat):Option qat:=match j with
 |2=>some { x with to:=.gone }
 |3=>some { x with qa4:=.gone }
 |_=>none
theorem qat.qj1(x:qat)(j:Nat)(y:qat)(h:qat.gS x j=some y):qat.c y j=.ev .un/\∀j',j'≠j->qat.c y j'=qat.c x j':=by
 match j with
 |0=>simp[qat.gS]at h
 |1=>simp[qat.gS]at h
 |2=>
  injection h with h;subst h;refine⟨rfl,fun j' hj=>?_⟩
  match j',hj with
  |0,hj|1,hj=>exact rfl
  |2,hj=>exact absurd rfl hj
  |3,hj=>exact rfl
  |n+4,_=>rfl
 |3=>
  injection h with h;subst h;refine⟨rfl,fun j' hj=>?_⟩
  match j',hj with
  |0,hj|1,hj|2,hj=>exact rfl
  |3,hj=>exact absurd rfl hj
  |n+4,_=>rfl
 |n+4=>simp[qat.gS]at h
def qac.gS(x:qac)(j:Nat):Option qac:=match j with
 |0=>some { x with params:=.gone }
 |1=>some { x with insts:=.gone }
 |4=>some { x with term:={ x.term with to:=.gone } }
 |5=>some { x with term:={ x.term with qa4:=.gone } }
 |_=>none
theorem qac.qj1(x:qac)(j:Nat)(y:qac)(h:qac.gS x j=some y):qac.c y j=.ev .un/\∀j',j'≠j->qac.c y j'=qac.c x j':=by
 match j with
 |0=>
  injection h with h;subst h;refine⟨rfl,fun j' hj=>?_⟩
  match j',hj with
  |0,hj=>exact absurd rfl hj
  |1,hj|2,hj|3,hj|4,hj|5,hj|6,hj|7,hj|8,hj=>exact rfl
  |n+9,_=>rfl
 |1=>
  injection h with h;subst h;refine⟨rfl,fun j' hj=>?_⟩
  match j',hj with
  |0,hj=>exact rfl
  |1,hj=>exact absurd rfl hj
  |2,hj|3,hj|4,hj|5,hj|6,hj|7,hj|8,hj=>exact rfl
  |n+9,_=>rfl
 |2=>simp[qac.gS]at h
 |3=>simp[qac.gS]at h
 |4=>
  injection h with h;subst h;refine⟨rfl,fun j' hj=>?_⟩
  match j',hj with
  |0,hj|1,hj|2,hj|3,hj=>exact rfl
  |4,hj=>exact absurd rfl hj
  |5,hj|6,hj|7,hj|8,hj=>exact rfl
  |n+9,_=>rfl
 |5=>
  injection h with h;subst h;refine⟨rfl,fun j' hj=>?_⟩
  match j',hj with
  |0,hj|1,hj|2,hj|3,hj|4,hj=>exact rfl
  |5,hj=>exact absurd rfl hj
  |6,hj|7,hj|8,hj=>exact rfl
  |n+9,_=>rfl
 |6=>simp[qac.gS]at h
 |7=>simp[qac.gS]at h
 |8=>simp[qac.gS]at h
 |n+9=>simp[qac.gS]at h
def qag.up(x:qau):qag:=⟨x.op,x.dest,.fz x.args,x.num,x.mem⟩
theorem qag.q2w(x:qau):∀c,qag.c (qag.up x) c=.ev (qau.c x c)
 |0|1|2|3|4=>rfl
 |n+5=>rfl
def qaj.up(x:Edge):qaj:=⟨x.block,.fz x.args⟩
theorem qaj.q2w(x:Edge):∀c,qaj.c (qaj.up x) c=.ev (Edge.c x c)
 |0|1=>rfl
 |n+2=>rfl
def qaq.up(x:Term):qaq:=⟨x.kind,x.cond,.fz x.to,.fz x.qa4⟩
theorem qaq.q2w(x:Term):∀c,qaq.c (qaq.up x) c=.ev (Term.c x c)
 |0|1|2|3=>rfl
 |n+4=>rfl
def qaa.up(x:Block):qaa:=⟨.fz x.params,.fz x.insts,⟨x.term.kind,x.term.cond,.fz x.term.to,.fz x.term.qa4⟩,x.qar,x.qba,x.line⟩
theorem qaa.q2w(x:Block):∀c,qaa.c (qaa.up x) c=.ev (Block.c x c)
 |0|1|2|3|4|5|6|7|8=>rfl
 |n+9=>rfl
def qac.up(x:qaa):qac:=⟨x.params.ox,x.insts.ox,⟨x.term.kind,x.term.cond,x.term.to.ox,x.term.qa4.ox⟩,x.qar,x.qba,x.line⟩
theorem qac.q2w(x:qaa):∀c,qac.c (qac.up x) c=qaa.c x c
 |0=>by
  show(match x.params.ox with | .own l=>Cell.own 3 (.int .i64) l | .fz l=>.ev (.fz (.int .i64) l) | .gone=>.ev .un)=(match x.params with | .own l=>Cell.own 3 (.int .i64) l | .fz l=>.ev (.fz (.int .i64) l))
  cases x.params<;>rfl
 |1=>by
  show(match x.insts.ox with | .own l=>Cell.own 46 (.st 8) l | .fz l=>.ev (.fz (.st 0) l) | .gone=>.ev .un)=(match x.insts with | .own l=>Cell.own 46 (.st 8) l | .fz l=>.ev (.fz (.st 0) l))
  cases x.insts<;>rfl
 |2|3=>rfl
 |4=>by
  show(match x.term.to.ox with | .own l=>Cell.own 51 (.st 9) l | .fz l=>.ev (.fz (.st 1) l) | .gone=>.ev .un)=(match x.term.to with | .own l=>Cell.own 51 (.st 9) l | .fz l=>.ev (.fz (.st 1) l))
  cases x.term.to<;>rfl
 |5=>by
  show(match x.term.qa4.ox with | .own l=>Cell.own 3 (.int .i64) l | .fz l=>.ev (.fz (.int .i64) l) | .gone=>.ev .un)=(match x.term.qa4 with | .own l=>Cell.own 3 (.int .i64) l | .fz l=>.ev (.fz (.int .i64) l))
  cases x.term.qa4<;>rfl
 |6|7|8=>rfl
 |n+9=>rfl
def zbl:(i:Nat)->suD i->Nat->Cell
 |0,x=>fun j=>.ev (qau.c x j)
 |1,x=>fun j=>.ev (Edge.c x j)
 |2,x=>fun j=>.ev (Term.c x j)
 |3,x=>fun j=>.ev (Block.c x j)
 |4,x=>fun j=>.ev (Arr.c x j)
 |5,x=>fun j=>.ev (qbp.c x j)
 |6,x=>fun j=>.ev (Fn.c x j)
 |7,x=>fun j=>.ev (Typ.c x j)
 |8,x=>qag.c x
 |9,x=>qaj.c x
 |10,x=>qaq.c x
 |11,x=>qaa.c x
 |12,x=>LsI.c x
 |13,x=>qat.c x
 |14,x=>qac.c x
 |_+15,_=>fun _=>.ev .un
def zeg:(i:Nat)->suD i->Nat->EV->Option (suD i)
 |0,x=>qau.s x
 |1,x=>Edge.s x
 |2,x=>Term.s x
 |3,x=>Block.s x
 |4,x=>Arr.s x
 |5,x=>qbp.s x
 |6,x=>Fn.s x
 |7,x=>Typ.s x
 |8,x=>qag.s x
 |9,x=>qaj.s x
 |10,x=>qaq.s x
 |11,x=>qaa.s x
 |12,x=>LsI.s x
 |13,x=>qat.s x
 |14,x=>qac.s x
 |_+15,_=>fun _ _=>none
def zbk:(i:Nat)->List EV->Option (suD i)
 |0=>qau.m
 |1=>Edge.m
 |2=>Term.m
 |3=>Block.m
 |4=>Arr.m
 |5=>qbp.m
 |6=>Fn.m
 |7=>Typ.m
 |_+8=>fun _=>none
def suK:(i:Nat)->suD i->Nat->(t:TypeId)->(e:Ty)->List e.D->Option (suD i)
 |8,x=>qag.k x
 |9,x=>qaj.k x
 |10,x=>qaq.k x
 |11,x=>qaa.k x
 |12,x=>LsI.k x
 |13,x=>qat.k x
 |14,x=>qac.k x
 |_,_=>fun _ _ _ _=>none
def zgi:(i:Nat)->suD i->Nat->(t:TypeId)->(e:Ty)->List e.D->Option (suD i)
 |8,x=>qag.oS x
 |9,x=>qaj.oS x
 |10,x=>qaq.oS x
 |11,x=>qaa.oS x
 |12,x=>LsI.oS x
 |13,x=>qat.oS x
 |14,x=>qac.oS x
 |_,_=>fun _ _ _ _=>none
def zgk:(i:Nat)->suD i->Nat->Option (suD i)
 |8,x=>qag.gS x
 |9,x=>qaj.gS x
 |10,x=>qaq.gS x
 |11,x=>qaa.gS x
 |12,x=>LsI.gS x
 |13,x=>qat.gS x
 |14,x=>qac.gS x
 |_,_=>fun _=>none
def zgh:Nat->Nat->Option (TypeId×Ty)
 |8=>qag.oT
 |9=>qaj.oT
 |10=>qaq.oT
 |11=>qaa.oT
 |12=>LsI.oT
 |13=>qat.oT
 |14=>qac.oT
 |_=>fun _=>none
def zgj:(i:Nat)->suD i->Nat->(e:Ty)->Option (List e.D)
 |8,x=>qag.oG x
 |9,x=>qaj.oG x
 |10,x=>qaq.oG x
 |11,x=>qaa.oG x
 |12,x=>LsI.oG x
 |13,x=>qat.oG x
 |14,x=>qac.oG x
 |_,_=>fun _ _=>none
def zgl:Nat->Nat->Option Ty
 |8=>qag.fT
 |9=>qaj.fT
 |10=>qaq.fT
 |11=>qaa.fT
 |12=>LsI.fT
 |13=>qat.fT
 |14=>qac.fT
 |_=>fun _=>none
def zgm:(i:Nat)->suD i->Nat->(e:Ty)->Option (List e.D)
 |8,x=>qag.fG x
 |9,x=>qaj.fG x
 |10,x=>qaq.fG x
 |11,x=>qaa.fG x
 |12,x=>LsI.fG x
 |13,x=>qat.fG x
 |14,x=>qac.fG x
 |_,_=>fun _ _=>none
def zfy:(i j:Nat)->Option (suD i->suD j)
 |0,8=>some qag.up
 |1,9=>some qaj.up
 |2,10=>some qaq.up
 |3,11=>some qaa.up
 |11,14=>some qac.up
 |_,_=>none
def zeh:Nat->Bool:=fun i=>Nat.blt i 8
instance:qa2 where
 fro:=zeh
 cell:=zbl
 set:=zeg
 zda:=suK
 make:=zbk
 zdd:=zgh
 zdf:=zgj
 zde:=zgi
 zfb:=zgl
 zfc:=zgm
 upF:=zfy
 q8y:=zgk
 qed:=fun i x j hf=>match i,x,hf with
  |0,x,_=>⟨_,rfl,fun hj len=>qau.qig x len j hj⟩
  |1,x,_=>⟨_,rfl,fun hj len=>Edge.qig x len j hj⟩
  |2,x,_=>⟨_,rfl,fun hj len=>Term.qig x len j hj⟩
  |3,x,_=>⟨_,rfl,fun hj len=>Block.qig x len j hj⟩
  |4,x,_=>⟨_,rfl,fun hj len=>Arr.qig x len j hj⟩
  |5,x,_=>⟨_,rfl,fun hj len=>qbp.qig x len j hj⟩
  |6,x,_=>⟨_,rfl,fun hj len=>Fn.qig x len j hj⟩
  |7,x,_=>⟨_,rfl,fun hj len=>Typ.qig x len j hj⟩
  |n+8,_,hf=>absurd (zg4 hf) (by omega)
 q6d:=fun i x j v y h=>match i,x,y,h with
  |0,x,y,h=>⟨⟨_,rfl⟩,⟨_,rfl,(qau.qgp x j v y h).1⟩,fun j' hj=>congrArg Cell.ev ((qau.qgp x j v y h).2 j' hj)⟩
  |1,x,y,h=>⟨⟨_,rfl⟩,⟨_,rfl,(Edge.qgp x j v y h).1⟩,fun j' hj=>congrArg Cell.ev ((Edge.qgp x j v y h).2 j' hj)⟩
  |2,x,y,h=>⟨⟨_,rfl⟩,⟨_,rfl,(Term.qgp x j v y h).1⟩,fun j' hj=>congrArg Cell.ev ((Term.qgp x j v y h).2 j' hj)⟩
  |3,x,y,h=>⟨⟨_,rfl⟩,⟨_,rfl,(Block.qgp x j v y h).1⟩,fun j' hj=>congrArg Cell.ev ((Block.qgp x j v y h).2 j' hj)⟩
  |4,x,y,h=>⟨⟨_,rfl⟩,⟨_,rfl,(Arr.qgp x j v y h).1⟩,fun j' hj=>congrArg Cell.ev ((Arr.qgp x j v y h).2 j' hj)⟩
  |5,x,y,h=>⟨⟨_,rfl⟩,⟨_,rfl,(qbp.qgp x j v y h).1⟩,fun j' hj=>congrArg Cell.ev ((qbp.qgp x j v y h).2 j' hj)⟩
  |6,x,y,h=>⟨⟨_,rfl⟩,⟨_,rfl,(Fn.qgp x j v y h).1⟩,fun j' hj=>congrArg Cell.ev ((Fn.qgp x j v y h).2 j' hj)⟩
  |7,x,y,h=>⟨⟨_,rfl⟩,⟨_,rfl,(Typ.qgp x j v y h).1⟩,fun j' hj=>congrArg Cell.ev ((Typ.qgp x j v y h).2 j' hj)⟩
  |8,x,y,h=>qag.qgp x j v y h
  |9,x,y,h=>qaj.qgp x j v y h
  |10,x,y,h=>qaq.qgp x j v y h
  |11,x,y,h=>qaa.qgp x j v y h
  |12,x,y,h=>LsI.qgp x j v y h
  |13,x,y,h=>qat.qgp x j v y h
  |14,x,y,h=>qac.qgp x j v y h
  |n+15,_,_,h=>by cases h
 qy9:=fun i x j t e l y h=>match i,x,y,h with
  |0,_,_,h|1,_,_,h|2,_,_,h|3,_,_,h|4,_,_,h|5,_,_,h|6,_,_,h|7,_,_,h=>by cases h
  |8,x,y,h=>by
   have h:qag.k x j t e l=some y:=h;unfold qag.k at h;split at h
   ·rename_i t0 e0 l0 hc;obtain⟨k1,k2⟩:=qag.qfx x j t e l y h;refine⟨?_,k1,k2⟩;exact qag.same x j t e l y t0 e0 l0 h hc
   ·cases h
  |9,x,y,h=>by
   have h:qaj.k x j t e l=some y:=h;unfold qaj.k at h;split at h
   ·rename_i t0 e0 l0 hc;obtain⟨k1,k2⟩:=qaj.qfx x j t e l y h;refine⟨?_,k1,k2⟩;exact qaj.same x j t e l y t0 e0 l0 h hc
   ·cases h
  |10,x,y,h=>by
   have h:qaq.k x j t e l=some y:=h;unfold qaq.k at h;split at h
   ·rename_i t0 e0 l0 hc;obtain⟨k1,k2⟩:=qaq.qfx x j t e l y h;refine⟨?_,k1,k2⟩;exact qaq.same x j t e l y t0 e0 l0 h hc
   ·cases h
  |11,x,y,h=>by
   have h:qaa.k x j t e l=some y:=h;unfold qaa.k at h;split at h
   ·rename_i t0 e0 l0 hc;obtain⟨k1,k2⟩:=qaa.qfx x j t e l y h;refine⟨?_,k1,k2⟩;exact qaa.same x j t e l y t0 e0 l0 h hc
   ·cases h
  |12,x,y,h=>by
   have h:LsI.k x j t e l=some y:=h;unfold LsI.k at h;split at h
   ·rename_i t0 e0 l0 hc;obtain⟨k1,k2⟩:=LsI.qfx x j t e l y h;refine⟨?_,k1,k2⟩;exact LsI.same x j t e l y t0 e0 l0 h hc
   ·cases h
  |13,x,y,h=>by
   have h:qat.k x j t e l=some y:=h;unfold qat.k at h;split at h
   ·rename_i t0 e0 l0 hc;obtain⟨k1,k2⟩:=qat.qfx x j t e l y h;refine⟨?_,k1,k2⟩;exact qat.same x j t e l y t0 e0 l0 h hc
   ·cases h
  |14,x,y,h=>by
   have h:qac.k x j t e l=some y:=h;unfold qac.k at h;split at h
   ·rename_i t0 e0 l0 hc;obtain⟨k1,k2⟩:=qac.qfx x j t e l y h;refine⟨?_,k1,k2⟩;exact qac.same x j t e l y t0 e0 l0 h hc
   ·cases h
  |n+15,_,_,h=>by cases h
 qwb:=fun i x j u h=>match i,x,h with
  |0,x,h=>by injection h with h;subst h;exact qau.qdu x j
  |1,x,h=>by injection h with h;subst h;exact Edge.qdu x j
  |2,x,h=>by injection h with h;subst h;exact Term.qdu x j
  |3,x,h=>by injection h with h;subst h;exact Block.qdu x j
  |4,x,h=>by injection h with h;subst h;exact Arr.qdu x j
  |5,x,h=>by injection h with h;subst h;exact qbp.qdu x j
  |6,x,h=>by injection h with h;subst h;exact Fn.qdu x j
  |7,x,h=>by injection h with h;subst h;exact Typ.qdu x j
  |8,x,h=>qag.qdu x j u h
  |9,x,h=>qaj.qdu x j u h
  |10,x,h=>qaq.qdu x j u h
  |11,x,h=>qaa.qdu x j u h
  |12,x,h=>LsI.qdu x j u h
  |13,x,h=>qat.qdu x j u h
  |14,x,h=>qac.qdu x j u h
  |n+15,_,h=>by injection h with h;subst h;rfl
 qhs:=fun i j t e l h=>match i,h with
  |0,h|1,h|2,h|3,h|4,h|5,h|6,h|7,h=>by cases h
  |8,h=>qag.qhs j t e l h
  |9,h=>qaj.qhs j t e l h
  |10,h=>qaq.qhs j t e l h
  |11,h=>qaa.qhs j t e l h
  |12,h=>LsI.qhs j t e l h
  |13,h=>qat.qhs j t e l h
  |14,h=>qac.qhs j t e l h
  |n+15,h=>by cases h
 qp1:=fun i l y h=>match i,y,h with
  |0,y,h=>⟨(qau.qmf l y h).1,fun j hj=>⟨_,rfl,(qau.qmf l y h).2 j hj⟩⟩
  |1,y,h=>⟨(Edge.qmf l y h).1,fun j hj=>⟨_,rfl,(Edge.qmf l y h).2 j hj⟩⟩
  |2,y,h=>⟨(Term.qmf l y h).1,fun j hj=>⟨_,rfl,(Term.qmf l y h).2 j hj⟩⟩
  |3,y,h=>⟨(Block.qmf l y h).1,fun j hj=>⟨_,rfl,(Block.qmf l y h).2 j hj⟩⟩
  |4,y,h=>⟨(Arr.qmf l y h).1,fun j hj=>⟨_,rfl,(Arr.qmf l y h).2 j hj⟩⟩
  |5,y,h=>⟨(qbp.qmf l y h).1,fun j hj=>⟨_,rfl,(qbp.qmf l y h).2 j hj⟩⟩
  |6,y,h=>⟨(Fn.qmf l y h).1,fun j hj=>⟨_,rfl,(Fn.qmf l y h).2 j hj⟩⟩
  |7,y,h=>⟨(Typ.qmf l y h).1,fun j hj=>⟨_,rfl,(Typ.qmf l y h).2 j hj⟩⟩
  |n+8,_,h=>by cases h
 qz7:=fun i x j t e l h1 h2=>match i,x,h1,h2 with
  |0,_,h,_|1,_,h,_|2,_,h,_|3,_,h,_|4,_,h,_|5,_,h,_|6,_,h,_|7,_,h,_=>by cases h
  |8,x,h1,h2=>qag.qfy x j t e l h1 h2
  |9,x,h1,h2=>qaj.qfy x j t e l h1 h2
  |10,x,h1,h2=>qaq.qfy x j t e l h1 h2
  |11,x,h1,h2=>qaa.qfy x j t e l h1 h2
  |12,x,h1,h2=>LsI.qfy x j t e l h1 h2
  |13,x,h1,h2=>qat.qfy x j t e l h1 h2
  |14,x,h1,h2=>qac.qfy x j t e l h1 h2
  |n+15,_,h,_=>by cases h
 qv0:=fun i x j y h=>match i,x,y,h with
  |0,_,_,h|1,_,_,h|2,_,_,h|3,_,_,h|4,_,_,h|5,_,_,h|6,_,_,h|7,_,_,h=>by cases h
  |8,x,y,h=>qag.qj1 x j y h
  |9,x,y,h=>qaj.qj1 x j y h
  |10,x,y,h=>qaq.qj1 x j y h
  |11,x,y,h=>qaa.qj1 x j y h
  |12,x,y,h=>LsI.qj1 x j y h
  |13,x,y,h=>qat.qj1 x j y h
  |14,x,y,h=>qac.qj1 x j y h
  |n+15,_,_,h=>by cases h
 qz6:=fun i x j t e l y h=>match i,x,y,h with
  |0,_,_,h|1,_,_,h|2,_,_,h|3,_,_,h|4,_,_,h|5,_,_,h|6,_,_,h|7,_,_,h=>by cases h
  |8,x,y,h=>qag.qfx x j t e l y h
  |9,x,y,h=>qaj.qfx x j t e l y h
  |10,x,y,h=>qaq.qfx x j t e l y h
  |11,x,y,h=>qaa.qfx x j t e l y h
  |12,x,y,h=>LsI.qfx x j t e l y h
  |13,x,y,h=>qat.qfx x j t e l y h
  |14,x,y,h=>qac.qfx x j t e l y h
  |n+15,_,_,h=>by cases h
 q6l:=fun i x j t e l0 t' e' l y h1 h2 h3=>match i,x,y,h1,h2,h3 with
  |0,_,_,h,_,_|1,_,_,h,_,_|2,_,_,h,_,_|3,_,_,h,_,_|4,_,_,h,_,_|5,_,_,h,_,_|6,_,_,h,_,_|7,_,_,h,_,_=>by cases h
  |8,x,y,h1,h2,h3=>by
   show qag.k x j t' e' l=some y;unfold qag.k;rw[qag.qfy x j t e l0 h1 h2];exact h3
  |9,x,y,h1,h2,h3=>by
   show qaj.k x j t' e' l=some y;unfold qaj.k;rw[qaj.qfy x j t e l0 h1 h2];exact h3
  |10,x,y,h1,h2,h3=>by
   show qaq.k x j t' e' l=some y;unfold qaq.k;rw[qaq.qfy x j t e l0 h1 h2];exact h3
  |11,x,y,h1,h2,h3=>by
   show qaa.k x j t' e' l=some y;unfold qaa.k;rw[qaa.qfy x j t e l0 h1 h2];exact h3
  |12,x,y,h1,h2,h3=>by
   show LsI.k x j t' e' l=some y;unfold LsI.k;rw[LsI.qfy x j t e l0 h1 h2];exact h3
  |13,x,y,h1,h2,h3=>by
   show qat.k x j t' e' l=some y;unfold qat.k;rw[qat.qfy x j t e l0 h1 h2];exact h3
  |14,x,y,h1,h2,h3=>by
   show qac.k x j t' e' l=some y;unfold qac.k;rw[qac.qfy x j t e l0 h1 h2];exact h3
  |n+15,_,_,h,_,_=>by cases h
 zab:=fun i j f h=>by
  unfold zfy at h;split at h
  ·injection h with h;subst h;exact⟨rfl,rfl,qag.q2w⟩
  ·injection h with h;subst h;exact⟨rfl,rfl,qaj.q2w⟩
  ·injection h with h;subst h;exact⟨rfl,rfl,qaq.q2w⟩
  ·injection h with h;subst h;exact⟨rfl,rfl,qaa.q2w⟩
  ·injection h with h;subst h;exact⟨rfl,rfl,qac.q2w⟩
  ·cases h
 q05:=fun i x j e l h1 h2=>match i,x,h1,h2 with
  |0,_,h,_|1,_,h,_|2,_,h,_|3,_,h,_|4,_,h,_|5,_,h,_|6,_,h,_|7,_,h,_=>by cases h
  |8,x,h1,h2=>qag.qj3 x j e l h1 h2
  |9,x,h1,h2=>qaj.qj3 x j e l h1 h2
  |10,x,h1,h2=>qaq.qj3 x j e l h1 h2
  |11,x,h1,h2=>qaa.qj3 x j e l h1 h2
  |12,x,h1,h2=>LsI.qj3 x j e l h1 h2
  |13,x,h1,h2=>qat.qj3 x j e l h1 h2
  |14,x,h1,h2=>qac.qj3 x j e l h1 h2
  |n+15,_,h,_=>by cases h
end Go.Abs
namespace Go.Abs
open Go
def Ow.dat{α β:Type}(g:α->β):Ow α β->List β
 |.own l=>l.map g
 |.fz l=>l
def qag.dat(x:qag):qau:=⟨x.op,x.dest,x.args.dat (fun a=>a),x.num,x.mem⟩
def qaj.dat(x:qaj):Edge:=⟨x.block,x.args.dat (fun a=>a)⟩
def qaq.dat(x:qaq):Term:=⟨x.kind,x.cond,x.to.dat qaj.dat,x.qa4.dat (fun a=>a)⟩
def qaa.dat(x:qaa):Block:=⟨x.params.dat (fun a=>a),x.insts.dat qag.dat,x.term.dat,x.qar,x.qba,x.line⟩
theorem qqk:qhe (.int .i64) (.int .i64) (fun a=>a):=qhe.fro rfl
theorem qag.qm8:qhe (.st 8) (.st 0) qag.dat:=qhe.of rfl fun x c hc=>by
 have hc:c<5:=hc;obtain⟨op,dest,args,num,mem⟩:=x
 match c,hc with
 |0,_=>exact .inl ⟨_,rfl,fun len=>qau.qig (qag.dat ⟨op,dest,args,num,mem⟩) len 0 (by decide)⟩
 |1,_=>exact .inl ⟨_,rfl,fun len=>qau.qig (qag.dat ⟨op,dest,args,num,mem⟩) len 1 (by decide)⟩
 |2,_=>cases args with
  |own l=>exact .inr ⟨3,.int .i64,l,.int .i64,fun a=>a,rfl,qqk,rfl⟩
  |fz l=>exact .inl ⟨_,rfl,fun len=>qau.qig (qag.dat ⟨op,dest,.fz l,num,mem⟩) len 2 (by decide)⟩
 |3,_=>exact .inl ⟨_,rfl,fun len=>qau.qig (qag.dat ⟨op,dest,args,num,mem⟩) len 3 (by decide)⟩
 |4,_=>exact .inl ⟨_,rfl,fun len=>qau.qig (qag.dat ⟨op,dest,args,num,mem⟩) len 4 (by decide)⟩
theorem qaj.qm8:qhe (.st 9) (.st 1) qaj.dat:=qhe.of rfl fun x c hc=>by
 have hc:c<2:=hc;obtain⟨bl,args⟩:=x
 match c,hc with
 |0,_=>exact .inl ⟨_,rfl,fun len=>Edge.qig (qaj.dat ⟨bl,args⟩) len 0 (by decide)⟩
 |1,_=>cases args with
  |own l=>exact .inr ⟨3,.int .i64,l,.int .i64,fun a=>a,rfl,qqk,rfl⟩
  |fz l=>exact .inl ⟨_,rfl,fun len=>Edge.qig (qaj.dat ⟨bl,.fz l⟩) len 1 (by decide)⟩
theorem qaa.qm8:qhe (.st 11) (.st 3) qaa.dat:=qhe.of rfl fun x c hc=>by
 have hc:c<9:=hc;obtain⟨ps,is,⟨kind,cond,to,qa4⟩,pi,un,li⟩:=x
 match c,hc with
 |0,_=>cases ps with
  |own l=>exact .inr ⟨3,.int .i64,l,.int .i64,fun a=>a,rfl,qqk,rfl⟩
  |fz l=>exact .inl ⟨_,rfl,fun len=>Block.qig (qaa.dat ⟨.fz l,is,⟨kind,cond,to,qa4⟩,pi,un,li⟩) len 0 (by decide)⟩
 |1,_=>cases is with
  |own l=>exact .inr ⟨46,.st 8,l,.st 0,qag.dat,rfl,qag.qm8,rfl⟩
  |fz l=>exact .inl ⟨_,rfl,fun len=>Block.qig (qaa.dat ⟨ps,.fz l,⟨kind,cond,to,qa4⟩,pi,un,li⟩) len 1 (by decide)⟩
 |2,_=>exact .inl ⟨_,rfl,fun len=>Block.qig (qaa.dat ⟨ps,is,⟨kind,cond,to,qa4⟩,pi,un,li⟩) len 2 (by decide)⟩
 |3,_=>exact .inl ⟨_,rfl,fun len=>Block.qig (qaa.dat ⟨ps,is,⟨kind,cond,to,qa4⟩,pi,un,li⟩) len 3 (by decide)⟩
 |4,_=>cases to with
  |own l=>exact .inr ⟨51,.st 9,l,.st 1,qaj.dat,rfl,qaj.qm8,rfl⟩
  |fz l=>exact .inl ⟨_,rfl,fun len=>Block.qig (qaa.dat ⟨ps,is,⟨kind,cond,.fz l,qa4⟩,pi,un,li⟩) len 4 (by decide)⟩
 |5,_=>cases qa4 with
  |own l=>exact .inr ⟨3,.int .i64,l,.int .i64,fun a=>a,rfl,qqk,rfl⟩
  |fz l=>exact .inl ⟨_,rfl,fun len=>Block.qig (qaa.dat ⟨ps,is,⟨kind,cond,to,.fz l⟩,pi,un,li⟩) len 5 (by decide)⟩
 |6,_=>exact .inl ⟨_,rfl,fun len=>Block.qig (qaa.dat ⟨ps,is,⟨kind,cond,to,qa4⟩,pi,un,li⟩) len 6 (by decide)⟩
 |7,_=>exact .inl ⟨_,rfl,fun len=>Block.qig (qaa.dat ⟨ps,is,⟨kind,cond,to,qa4⟩,pi,un,li⟩) len 7 (by decide)⟩
 |8,_=>exact .inl ⟨_,rfl,fun len=>Block.qig (qaa.dat ⟨ps,is,⟨kind,cond,to,qa4⟩,pi,un,li⟩) len 8 (by decide)⟩
def zbq:(i:Nat)->Option (zga i)
 |8=>some ⟨0,qag.dat⟩
 |9=>some ⟨1,qaj.dat⟩
 |11=>some ⟨3,qaa.dat⟩
 |_=>none
def Sp.dnO{α β:Type}:Ox α β->Option (Ow α β)
 |.own l=>some (.own l)
 |.fz l=>some (.fz l)
 |.gone=>none
theorem qv6{α β:Type}{x:Ox α β}{y:Ow α β}(h:Sp.dnO x=some y):y.ox=x:=by
 cases x with
 |own l=>injection h with h;subst h;rfl
 |fz l=>injection h with h;subst h;rfl
 |gone=>cases h
def qac.dn(x:qac):Option qaa:=match Sp.dnO x.params,Sp.dnO x.insts,Sp.dnO x.term.to,Sp.dnO x.term.qa4 with
 |some ps,some is,some to,some qa4=>some ⟨ps,is,⟨x.term.kind,x.term.cond,to,qa4⟩,x.qar,x.qba,x.line⟩
 |_,_,_,_=>none
theorem qac.zff(x:qac)(y:qaa)(h:qac.dn x=some y):qac.up y=x:=by
 unfold qac.dn at h;split at h
 ·rename_i h1 h2 h3 h4;injection h with h;subst h;obtain⟨ps,is,⟨k,c,to,qa4⟩,pi,un,li⟩:=x;simp only[qac.up,qv6 h1,qv6 h2,qv6 h3,qv6 h4]
 ·cases h
def zf0:(i j:Nat)->Option (SU.D i->Option (SU.D j))
 |14,11=>some qac.dn
 |_,_=>none
instance:qxv where
 d:=zbq
 dn:=zf0
 zcu:=fun i j g h=>by
  unfold zf0 at h;split at h
  ·injection h with h;subst h;exact⟨_,rfl,qac.zff⟩
  ·cases h
 ok:=fun i x h=>by
  unfold zbq at h;split at h
  ·injection h with h;subst h;exact qag.qm8
  ·injection h with h;subst h;exact qaj.qm8
  ·injection h with h;subst h;exact qaa.qm8
  ·cases h
def zfz:Nat->Bool
 |4|5|7=>true
 |_=>false
instance:FFs where
 st:=zfz
 ok:=fun i h=>by
  unfold zfz at h;split at h
  ·exact⟨rfl,fun x c hc=>by
    have hc:c<5:=hc
    match c,hc with
    |0,_|1,_|2,_|3,_=>trivial
    | 4,_=>trivial⟩
  ·exact⟨rfl,fun x c hc=>by
    have hc:c<3:=hc
    match c,hc with
    |0,_|1,_=>trivial
    | 2,_=>trivial⟩
  ·exact⟨rfl,fun x c hc=>by
    have hc:c<2:=hc
    match c,hc with
    |0,_=>trivial
    | 1,_=>trivial⟩
  ·cases h
end Go.Abs
