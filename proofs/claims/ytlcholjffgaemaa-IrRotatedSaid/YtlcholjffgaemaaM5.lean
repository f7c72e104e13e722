/-
Texts of the proof, part 5: J8 H8 H9 HA HB Tc Su Sd.
No statement of the program is proved here.
-/
import Derived.Test.YtlcholjffgaemaaM4
set_option linter.unusedVariables false
set_option linter.unusedSimpArgs false
set_option linter.unusedSectionVars false
namespace Go.Abs
open Go
variable {P:Program} {Q:Exit->St->Prop} {st:St}
theorem q0x{g:GOp}{u:V}{E:Env}{M:Id->Option Nat}{F:Nat->Prop}{a:Act}{w:World}(h:QG P g u st)(hv:Val P g.oper)(hr:Rd P (execOp a.eval g.oper))(r:Rel E M F st a w) :
  ∃v F',Rel E M F' (st.put g.dst u) (a.put g.dst v) w/\((g.wanted a.tmps=true/\(execOp a.eval g.oper).run P w=.ok (.value v) w)\/(g.wanted a.tmps=false/\v=undef)):=by
 have hrun:QO P ⟨g.dst,g.op,g.type,none⟩ u (st.only (rds g.op))->∃v F',Rel E M F' (st.put g.dst u) (a.put g.dst v) w/\(execOp a.eval g.oper).run P w=.ok (.value v) w:=by
  intro hq;have hrel:Rel E M F (st.only (rds g.op)) a w:=r.congr rfl rfl (fun t=>by
   simp only[St.only];cases hm:q3w (rds g.op) t with
   |false=>exact .inr rfl
   | true=>exact .inl rfl)
  have h1:=hq E M F a w hrel;have h1:g.oper.wp P a w (fun a' w'=>∃c F',a'=a.put g.dst c/\Go.Abs.zb1 w F w' F'/\qa0 st.heap M F' w' u c) (fun _ _ _=>False):=h1;unfold Oper.wp at h1;cases he:(execOp a.eval g.oper).run P w with
  |halt x w'=>rw[he]at h1;cases x<;>simp only[Oper.upon]at h1
  |ok n w'=>
   obtain⟨v,rfl⟩:=hv _ _ _ _ he;obtain⟨rfl,_⟩:=hr _ _ _ he;rw[he]at h1;simp only[Oper.upon]at h1;obtain⟨c,F',e1,gr,hc⟩:=h1;obtain⟨r2,x2⟩:=r.h.grown gr;have e1:a.put g.dst v=a.put g.dst c:=e1;refine⟨v,F',?_,rfl⟩;rw[e1];exact r.put r2 x2 _ hc
 cases hg:g.g with
 |none=>
  have hw:g.wanted a.tmps=true:=by unfold GOp.wanted;rw[hg]
  unfold QG at h;rw[hg]at h;obtain⟨v,F',h1,h2⟩:=hrun h;exact⟨v,F',h1,.inl ⟨hw,h2⟩⟩
 |some gw=>
  obtain⟨gt,want⟩:=gw;unfold QG at h;rw[hg]at h;cases gt with
  |none=>exact h.elim
  |some t=>
   have tv:=r.env t;rcases h with⟨hlt,b,hb,hy,hn⟩|⟨hb,hn⟩
   ·rw[hb]at tv;have tv:a.tmps.getD t undef=.bool b:=tv;have he:a.tmps[t]?=some (.bool b):=by
     have hlt':t<a.tmps.size:=by rw[r.nt];exact zi8 hlt
     rw[zjr,zjt hlt',zjv]at tv;rw[zjt hlt',tv]
    have hw:g.wanted a.tmps=(b==want):=by
     unfold GOp.wanted;simp only[hg,he]
    by_cases hbw:b=want
    ·obtain⟨v,F',h1,h2⟩:=hrun (hy hbw);exact⟨v,F',h1,.inl ⟨by rw[hw,hbw,beq_self_eq_true],h2⟩⟩
    ·have hb2:b=!want:=by cases b<;>cases want<;>simp_all
     rw[hn hb2];exact⟨undef,F,r.qgh _ (u:=.und) (v:=undef) rfl,.inr ⟨by rw[hw];simpa using hbw,rfl⟩⟩
   ·rw[hb]at tv;have tv:a.tmps.getD t undef=undef:=tv;have hw:g.wanted a.tmps=false:=by
     unfold GOp.wanted;simp only[hg];rw[zjr]at tv;cases he:a.tmps[t]? with
     |none=>rfl
     |some v=>
      rw[he,zjv]at tv;subst tv;rfl
    rw[hn];exact⟨undef,F,r.qgh _ (u:=.und) (v:=undef) rfl,.inr ⟨hw,rfl⟩⟩
theorem qws(ρ:Operand->Value)(all:List Oper)(o:Oper):execOp ρ (Oper.gop all o).oper=execOp ρ o:=by
 obtain⟨dst,op,type,pos,after,guard⟩:=o;cases op<;>rfl
def YR(P:Program)(R:World->World->Prop)(A:Array Oper)(o:Oper)(v:Value)(a:Act)(w:World):Prop:=
 (Region.wanted o (yielded A a.tmps)=true/\∀w2,R w w2->(execOp a.eval o).run P w2=.ok (.value v) w2)\/(Region.wanted o (yielded A a.tmps)=false/\v=undef)
section
variable {R:World->World->Prop}
theorem YR.of_same(ht:∀a b c,R a b->R b c->R a c){A:Array Oper}{o:Oper}{v:Value}{a a':Act}{w w':World}(hy:YR P R A o v a w)(g:R w w')(he:execOp a'.eval o=execOp a.eval o)
  (hw:Region.wanted o (yielded A a'.tmps)=Region.wanted o (yielded A a.tmps)):YR P R A o v a' w':=by
 unfold YR at *;rw[he,hw];exact hy.imp (fun⟨h1,h2⟩=>⟨h1,fun w2 g2=>h2 w2 (ht _ _ _ g g2)⟩) id
theorem YR.wpOp(hr:∀w,R w w){A:Array Oper}{Q:Exit->Act->World->Prop}{i:Nat}{o:Oper}{v:Value}{a:Act}{w:World}(hi:A[i]?=some o)(hy:YR P R A o v a w){K:Act->World->Prop}(h:K (a.put o.dst v) w):wpOp P A Q i K a w:=by
 unfold Go.wpOp;simp only[hi];rcases hy with⟨hw,hv⟩|⟨hw,rfl⟩
 ·simp only[hw,if_true,Oper.wp,hv w (hr w),Oper.upon];exact .inl h
 ·simp only[hw,zjw,if_false];exact h
theorem qyv(hr:∀w,R w w)(ht:∀a b c,R a b->R b c->R a c)(hG:∀w w',Grown w w'->R w w'){A:Array Oper}{J:Nat->Bool}{E:Env}{j:Nat}{oi oj:Oper}{v:Value}(hj:A[j]?=some oj)(hap:oi.apart A oj=true)(hsi:∀cs b,oi.op≠.select cs b)(hsj:∀cs b,oj.op≠.select cs b)
  (hc:(∀w w',R w w')\/J j=true\/(Val P oj/\∀ρ,Gr P (execOp ρ oj))) {K:Act->World->Prop} {a:Act} {w:World} (hy:YR P R A oi v a w)
  (h:wpOp P A (qjv E Q) j (fun a' w'=>(J j=true->Grown w w')/\K a' w') (a.put oi.dst v) w) :
  wpOp P A (qjv E Q) j (fun a' w'=>YR P R A oi v a' w'/\(J j=true->Grown w w')/\K (a'.put oi.dst v) w') a w:=by
 obtain⟨h1,h2,h3⟩:=Oper.apart_spec hap;have keep:∀(a:Act) (u:Value) (w w':World),R w w'->YR P R A oi v a w->YR P R A oi v (a.put oj.dst u) w':=fun a u w w' g hy=>
  hy.of_same ht g (execOp_put oi hsi a oj.dst u h3) (wanted_put oi a oj.dst u h3)
 have keepD:∀d w',R w w'->YR P R A oi v { a with defers:=d::a.defers } w':=fun d w' g=>hy.of_same ht g rfl rfl;unfold wpOp at *;simp only[hj]at *;rw[wanted_put oj a oi.dst v h1]at h;split
 ·rename_i hw;simp only[hw,if_true]at h;rcases h with h|⟨_,a',w',hl⟩
  ·refine .inl ?_;unfold Oper.wp at *;rw[execOp_put oj hsj a oi.dst v h1]at h;cases hrun:(execOp a.eval oj).run P w with
   |ok n w'=>
    have key:(∃u,n=.value u)\/((∀w w',R w w')\/J j=true):=by
     rcases hc with hc|hc|hc
     ·exact .inr (.inl hc)
     ·exact .inr (.inr hc)
     ·exact .inl (hc.1 _ _ _ _ hrun)
    have k1:∀ {w''},((∀w w',R w w')\/J j=true)->(J j=true->Grown w w'')->R w w'':=fun k g=>k.elim (fun k=>k _ _) (fun k=>hG _ _ (g k));rw[hrun]at h;cases n<;>simp only[Oper.upon]at h ⊢
    case value u=>
     have hR:R w w':=by
      rcases hc with hc|hc|hc
      ·exact hc _ _
      ·exact hG _ _ (h.1 hc)
      ·exact hG _ _ (hc.2 _ _ _ _ hrun)
     exact⟨keep a u w w' hR hy,h.1,by rw[<- Act.put_comm a v u h2];exact h.2⟩
    case skip=>
     rcases key with⟨u,hu⟩|key
     ·cases hu
     ·exact⟨keep a _ w w' (k1 key h.1) hy,h.1,by rw[<- Act.put_comm a v undef h2];exact h.2⟩
    case defer d=>
     rcases key with⟨u,hu⟩|key
     ·cases hu
     ·refine⟨keep _ _ w' w' (hr w') (keepD d w' (k1 key h.1)),h.1,?_⟩;rw[<- Act.put_comm _ v undef h2,<- Act.put_defers];exact h.2
    case enter f args=>
     rcases key with⟨u,hu⟩|key
     ·cases hu
     ·refine Calls.mono h fun e w'' he=>?_;cases e with
      |returned u=>exact⟨keep a u w w'' (k1 key he.1) hy,he.1,by rw[<- Act.put_comm a v u h2];exact he.2⟩
      |panicked c=>exact he.elim
      |outgrown=>exact he
    case row row args=>
     rcases key with⟨u,hu⟩|key
     ·cases hu
     ·exact Rows.mono h fun u w'' he=>⟨keep a u w w'' (k1 key he.1) hy,he.1,by rw[<- Act.put_comm a v u h2];exact he.2⟩
   |halt x w'=>
    rw[hrun]at h;cases x<;>simp only[Oper.upon]at h ⊢
    exact h
  ·exact hl.elim
 ·rename_i hw;simp only[hw]at h;exact⟨keep a _ w w (hr w) hy,h.1,by rw[<- Act.put_comm a v undef h2];exact h.2⟩
theorem qpi(hr:∀w,R w w)(ht:∀a b c,R a b->R b c->R a c)(hG:∀w w',Grown w w'->R w w'){A:Array Oper}{J:Nat->Bool}{E:Env}{i:Nat}{oi:Oper}{v:Value}{ab:List Nat}(hab:qu8 A ab)(hi:A[i]?=some oi)(hsel:∀(j:Nat) (o:Oper) cs b,A[j]?=some o->o.op≠.select cs b) :
  ∀(fuel:Nat) (D:List Nat) (listed:Array Bool) (a:Act) (w:World),qh7 A listed D->qtc A (·∈D)->i∉D ->
   (∀j oj,A[j]?=some oj->j≠i->j∉D->i∉qea A j->(qk0 ab j).testBit i=false->oi.apart A oj=true/\((∀w w',R w w')\/J j=true\/(Val P oj/\∀ρ,Gr P (execOp ρ oj)))) ->
   i∈Region.ready .any A listed->YR P R A oi v a w ->
   qef P A J (qjv E Q) fuel (listed.setIfInBounds i true) (a.put oi.dst v) w->qef P A J (qjv E Q) (fuel+1) listed a w:=by
 intro fuel
 induction fuel with
 |zero=>
  intro D listed a w _ _ _ _ hr' hy H;refine⟨fun h=>(by rw[h]at hr';cases hr'),fun j hj=>?_⟩
  by_cases hji:j=i
  ·subst hji;exact hy.wpOp hr hi ⟨fun _=>Grown.refl w,H⟩
  ·have:=ready_mono hj hji;rw[H.1]at this;cases this
 |succ fuel ih=>
  intro D listed a w hh hc hiD hfree hr' hy H;refine⟨fun h=>(by rw[h]at hr';cases hr'),fun j hj=>?_⟩
  by_cases hji:j=i
  ·subst hji;exact hy.wpOp hr hi ⟨fun _=>Grown.refl w,H⟩
  ·have h1:=H.2 j (ready_mono hj hji);obtain⟨hjlt,hjD,hjE⟩:=hh.ready hj;obtain⟨_,oj,hoj,_⟩:=mem_ready.1 hj;have hanc:(qk0 ab j).testBit i=false:=by
    cases hb:(qk0 ab j).testBit i with
    |false=>rfl
    |true=>exact absurd (hab (fun k=>k∈D) hc _ _ hb hjE) hiD
   obtain⟨f1,f2⟩:=hfree j oj hoj hji hjD (fun he=>hiD (hjE i he)) hanc;have h2:=qyv hr ht hG (Q:=Q) (E:=E) hoj f1 (fun cs b=>hsel i oi cs b hi) (fun cs b=>hsel j oj cs b hoj) f2 hy h1;refine wpOp_mono (fun a' w' h3=>⟨h3.2.1,ih (D++[j]) (listed.setIfInBounds j true) a' w' (hh.set j) ?_ ?_ ?_ (ready_mono hr' (Ne.symm hji)) h3.1 ?_⟩) h2
   ·intro k hk e he;rcases zjp.1 hk with h|h
    ·exact zjs _ (hc k h e he)
    ·have:k=j:=by simpa using h
     exact zjs _ (hjE e (this▸he))
   ·intro hm;rcases zjp.1 hm with h|h
    ·exact hiD h
    ·exact hji (Eq.symm (by simpa using h))
   ·exact fun k ok hk hki hun he ha=>hfree k ok hk hki (fun hm=>hun (zjs _ hm)) he ha
   ·rw[Array.setIfInBounds_comm _ _ hji];exact h3.2.2
end
def zei(P:Program)[Tys P](A:Array Oper)(ab:List Nat)(J:Nat->Bool)(D:List Nat)(i:Nat):Bool:=
 match A[i]? with
 |none=>false
 |some oi=>(List.range A.size).all fun j=>Nat.beq j i||D.contains j||(qk0 ab j).testBit i||match A[j]? with
   |some oj=>oi.apart A oj&&(J j||grB P oj.op)
   |none=>true
def zfq(P:Program)[Tys P](A:Array Oper)(ab:List Nat)(J:Nat->Bool)(D:List Nat)(i:Nat):Bool:=
 Nat.blt i A.size&&!D.contains i&&((qea A i).all fun x=>D.contains x)&&(D.all fun k=>(qea A k).all fun e=>D.contains e)&&Region.noSelect A&&rdB P (qdi A i).op&&zei P A ab J D i
theorem qo1{A:Array Oper}{D:List Nat}{i:Nat}(hlt:i<A.size)(hiD:i∉D)(hDn:D.Nodup)(hDlt:∀k∈D,k<A.size):(D++[i]).Nodup/\(∀k∈D++[i],k<A.size)/\D.length+1<=A.size:=by
 refine⟨zj0.2 ⟨hDn,by simp,fun x hx y hy exy=>?_⟩,fun k hk=>?_,?_⟩
 ·have:y=i:=by simpa using hy
  exact hiD (this▸exy▸hx)
 ·rcases zjp.1 hk with h|h
  ·exact hDlt k h
  ·have:k=i:=by simpa using h
   exact this▸hlt
 ·have:=qhc A.size (i::D) (zj5.2 ⟨hiD,hDn⟩) (fun k hk=>by
   rcases zjx.1 hk with h|h
   ·exact h▸hlt
   ·exact hDlt k h)
  simpa using this
theorem qe7.ahead[T:Tys P]{A:Array Oper}{J:Nat->Bool}{D:List Nat}{ab:List Nat}(hab:qu8 A ab)(i:Nat)(hc:zfq P A ab J D i=true)(h:QS P (qe7 P A J (D++[i]) Q) [qdi A i] st):qe7 P A J D Q st:=by
 simp only[zfq,zi4,zjm,zjo]at hc;obtain⟨⟨⟨⟨⟨⟨c1,c2⟩,c3⟩,c4⟩,c5⟩,c6⟩,c7⟩:=hc;have hlt:i<A.size:=zi8 c1;have hiD:i∉D:=fun hm=>by rw[zjn.2 hm]at c2;cases c2
 have hAi:A[i]?=some (A.getD i default):=by simp[Array.getD,hlt]
 cases h with
 |cons u hq k=>
 cases k with
 |nil k=>
 refine⟨fun E M F a w fuel listed r hs hl hDn hDlt hfuel=>?_⟩;have hh:qh7 A listed D:=⟨hs,hl⟩
 obtain⟨n1,n2,n3⟩:=qo1 hlt hiD hDn hDlt;have hrdy:i∈Region.ready .any A listed:=hh.qly hlt hiD (fun x hx=>⟨zjn.1 (c3 x hx),hDlt x (zjn.1 (c3 x hx))⟩);obtain⟨fuel,rfl⟩:∃f,fuel=f+1:=⟨fuel-1,by omega⟩
 obtain⟨hval,hrd⟩:=zdq (o:=A.getD i default) c6;have ho:∀ρ,execOp ρ (qdi A i).oper=execOp ρ (A.getD i default):=fun ρ=>qws ρ _ _;obtain⟨v,F',hr,hrun⟩:=q0x hq (fun ρ w n w' e=>hval ρ w n w' (by rw[<- ho];exact e)) (by rw[ho];exact hrd _) r
 have hset:=hh.set i;have h1:=k.out E M F' _ w fuel _ hr hset.1 hset.2 n1 n2 (by simp;omega)
 refine qpi (R:=Grown) Grown.refl (fun a b c=>Grown.trans) (fun _ _ g=>g) hab hAi (Region.noSelect_spec c5) fuel D listed a w hh (fun k hk e he=>zjn.1 (c4 k hk e he)) hiD ?_ hrdy ?_ h1
 ·intro j oj hj hji hjD _ hanc;have hjlt:j<A.size:=(zkl.1 hj).1;simp only[zei,hAi,zjm,zj3,zj7]at c7;rcases c7 j hjlt with((h|h)|h)|h
  ·exact absurd (zi6 h) hji
  ·exact absurd (zjn.1 h) hjD
  ·rw[h]at hanc;cases hanc
  ·rw[hj]at h;simp only[zi4,zj7]at h;exact⟨h.1,.inr (h.2.imp id zef)⟩
 ·have hw:(qdi A i).wanted a.tmps=Region.wanted (A.getD i default) (yielded A a.tmps):=qeu A _ _;rw[hw,ho]at hrun;exact hrun.imp (fun⟨x1,x2⟩=>⟨x1,(hrd _ _ _ _ x2).2⟩) id
theorem qe7.ze4[T:Tys P]{A:Array Oper}{J:Nat->Bool}{D:List Nat}(i:Nat)(nt:Operand->Bool)(hn:∀x,nt x=true->∃k n,st.eval x=.t (.int k n))(hcn:cnB P nt (qdi A i).op=true)(hc:zfr A D i=true)(h:QS P (qe7 P A J (D++[i]) Q) [qdi A i] st):qe7 P A J D Q st:=by
 simp only[zfr,zi4,zjm,zjo]at hc;obtain⟨⟨⟨⟨⟨c1,c2⟩,c3⟩,c4⟩,c5⟩,c6⟩:=hc;have hlt:i<A.size:=zi8 c1;have hiD:i∉D:=fun hm=>by rw[zjn.2 hm]at c2;cases c2
 have hAi:A[i]?=some (A.getD i default):=by simp[Array.getD,hlt]
 cases h with
 |cons u hq k=>
 cases k with
 |nil k=>
 refine⟨fun E M F a w fuel listed r hs hl hDn hDlt hfuel=>?_⟩;have hh:qh7 A listed D:=⟨hs,hl⟩
 obtain⟨n1,n2,n3⟩:=qo1 hlt hiD hDn hDlt;have hrdy:i∈Region.ready .any A listed:=hh.qly hlt hiD (fun x hx=>⟨zjn.1 (c3 x hx),hDlt x (zjn.1 (c3 x hx))⟩);obtain⟨fuel,rfl⟩:∃f,fuel=f+1:=⟨fuel-1,by omega⟩
 obtain⟨hval,hcn⟩:=zey (o:=A.getD i default) (ρ:=a.eval) (fun x hx=>by
  obtain⟨k,n,e⟩:=hn x hx;exact⟨k,n,qb4 r e⟩) hcn
 have ho:∀ρ,execOp ρ (qdi A i).oper=execOp ρ (A.getD i default):=fun ρ=>qws ρ _ _;obtain⟨v,F',hr,hrun⟩:=q0x hq (fun ρ w n w' e=>hval ρ w n w' (by rw[<- ho];exact e)) (by rw[ho];exact hcn.rd) r
 have hset:=hh.set i;have h1:=k.out E M F' _ w fuel _ hr hset.1 hset.2 n1 n2 (by simp;omega)
 have hw:(qdi A i).wanted a.tmps=Region.wanted (A.getD i default) (yielded A a.tmps):=qeu A _ _;rw[hw,ho]at hrun;refine qpi (R:=fun _ _=>True) (fun _=>trivial) (fun _ _ _ _ _=>trivial) (fun _ _ _=>trivial) (qu8.bef A) hAi (Region.noSelect_spec c4) fuel D listed a w hh (fun k hk e he=>zjn.1 (c6 k hk e he)) hiD ?_ hrdy (hrun.imp (fun⟨x1,x2⟩=>⟨x1,fun w2 _=>(hcn _ _ _ x2).2 w2⟩) id) h1;intro j oj hj hji hjD hno hanc;refine⟨?_,.inl fun _ _=>trivial⟩;have hjlt:j<A.size:=(zkl.1 hj).1;simp only[zej,hAi,zjm,zj3,zj7]at c5;rcases c5 j hjlt with(h|h)|h
 ·exact absurd (zi6 h) hji
 ·exact absurd (zjn.1 h) hjD
 ·rw[hj]at h;simp only[zj7]at h;exact h.resolve_left fun h=>hno (zjn.1 h)
end Go.Abs
namespace Go.Abs
open Go
noncomputable section
variable {P:Program} {d:Option Tmp} {ty:TypeId} {L:List GOp} {ρ:Type}
theorem q06{E:Env}{Q Q':Exit->St->Prop}{o:Oper}{a:Act}{w:World}{K K':Act->World->Prop}(h:∀a w,K a w->K' a w)(hk:o.wp P a w K (qjv E Q)):o.wp P a w K' (qjv E Q'):=by
 unfold Oper.wp at hk ⊢;generalize (execOp a.eval o).run P w=res at hk ⊢;cases res with
 |ok n w'=>
  cases n<;>simp only[Oper.upon]at hk⊢<;> first
   |exact h _ _ hk
   |exact Calls.mono hk (fun e w'' he=>by cases e<;>first|exact h _ _ he|exact he.elim|(obtain⟨a,w,he⟩:=he;exact he.elim))
   |exact Rows.mono hk (fun _ _ he=>h _ _ he)
 |halt x w'=>cases x<;>simp only[Oper.upon]at hk⊢<;> exact hk
theorem qlm{E:Env}{Q Q':Exit->St->Prop}(hq:∀e st,Q e st->Q' e st):∀(L:List GOp) (a:Act) (w:World),lwp P L (qjv E Q) a w->lwp P L (qjv E Q') a w
 |[],a,w,h=>by
  obtain⟨M,F,st,r,k⟩:=h;exact⟨M,F,st,r,hq _ _ k⟩
 |g::L,a,w,h=>by
  simp only[lwp]at h ⊢;split
  ·rename_i hw;rw[if_pos hw]at h;exact q06 (qlm hq L) h
  ·rename_i hw;rw[if_neg hw]at h;exact qlm hq L _ _ h
section
variable [SU] [qa3] [qyl] [FFs] {Q:Exit->ESt->Prop}
def ESt.only(s:ESt)(xs:List Tmp):ESt:={ s with env:=fun t=>bif q3w xs t then s.env t else .un }
theorem qlx(s:ESt)(xs:List Tmp):qbf (s.only xs)=(qbf s).only xs:=by
 simp only[qbf,ESt.only,St.only];congr 1;funext t;cases q3w xs t<;>simp[toV]
def q26(s so:ESt)(f:FuncId)(us:List EV)(d:Option Tmp)(K:ESt->Option ρ):List (Ctr P)->Option ρ
 |[]=>none
 | c::T=>bif Nat.beq c.f f&&c.quiet then(match quj c so us with
  |some z=>qaj (c.F z.x z.y) fun res=>K (s.put d (mkE c.rv res.1))
  | none=>q26 s so f us d K T)else q26 s so f us d K T
def q1j(s so:ESt)(f:FuncId)(bs:List EV)(d:Option Tmp)(K:ESt->Option ρ):List (Ctr P)->Option ρ
 |[]=>none
 | c::T=>bif Nat.beq c.f f&&(c.quiet&&qn1 c.rv)then(match quj c (noS bs) bs with
  |some z=>qaj (c.F z.x z.y) fun res=>K (s.put d (mkE c.rv res.1))
  | none=>q1j s so f bs d K T)else q1j s so f bs d K T
def zel(so:ESt)(f:FuncId)(us:List EV):List (Ctr P)->Bool
 |[]=>false
 |c::T=>(Nat.beq c.f f&&(c.quiet&&(quj c so us).isSome))||zel so f us T
def qz9(wr:Opt)(T:List (Ctr P))[Tys P][TyX P](s:ESt)(d:Option Tmp)(op:Op)(K:ESt->Option ρ):Option ρ:=
 bif qmv op then q5c P wr.wr (s.only (rds op)).eval s.heap op (fun u=>K (s.put d u))else
 match op with
 |.call c=>match c.callee with
  |.value (.func f)=>qkt (s.only (rds op)) c.args.toList fun us=>match zel (s.only (rds op)) f us T with
   |true=>q26 s (s.only (rds op)) f us d K T
   |false=>qjp (s.only (rds op)).heap us fun bs=>q1j s (s.only (rds op)) f bs d K T
  |_=>none
 |_=>none
variable {K0:ESt->Prop}
theorem qq2{s:ESt}{f:FuncId}{args:Array Operand}{ats:Array TypeId}{K:ESt->Option ρ}{res:ρ}(hK:∀s',K s'=some res->QST P K0 L s'):∀ {T:List (Ctr P)},
  q26 s (s.only (rds (.call { callee:=.value (.func f),args:=args,argTypes:=ats }))) f (args.toList.map (s.only (rds (.call { callee:=.value (.func f),args:=args,argTypes:=ats }))).eval) d K T=some res ->
  QST P K0 (⟨d,.call { callee:=.value (.func f),args:=args,argTypes:=ats },ty,none⟩::L) s
 |[],h=>by cases h
 |c::T,h=>by
  unfold q26 at h;cases hb:Nat.beq c.f f&&c.quiet with
  |false=>rw[hb]at h;exact qq2 hK (T:=T) h
  |true=>
   rw[hb]at h;simp only[zi4]at hb;obtain⟨hb,hq⟩:=hb;obtain rfl:=zi6 hb;simp only[cond_true]at h;split at h
   ·rename_i z hz;have hh:=qcd h;clear h;obtain⟨y,hF,h⟩:=hh;have:=c.zb0;have q:=qj4 hq (qiu (d:=d) (ty:=ty) (ats:=ats)) hz hF;rw[qlx]at q;refine⟨QS.q q ?_⟩;have:=(hK _ h).out;rwa [qay]at this
   ·exact qq2 hK (T:=T) h
theorem qqc{s:ESt}{f:FuncId}{args:Array Operand}{ats:Array TypeId}{K:ESt->Option ρ}{res:ρ}(hK:∀s',K s'=some res->QST P K0 L s'):∀ {T:List (Ctr P)},
  q1j s (s.only (rds (.call { callee:=.value (.func f),args:=args,argTypes:=ats }))) f (borrows (s.only (rds (.call { callee:=.value (.func f),args:=args,argTypes:=ats }))).heap (args.toList.map (s.only (rds (.call { callee:=.value (.func f),args:=args,argTypes:=ats }))).eval)) d K T=some res ->
  QST P K0 (⟨d,.call { callee:=.value (.func f),args:=args,argTypes:=ats },ty,none⟩::L) s
 |[],h=>by cases h
 |c::T,h=>by
  unfold q1j at h;cases hb:Nat.beq c.f f&&(c.quiet&&qn1 c.rv)with
  |false=>rw[hb]at h;exact qqc hK (T:=T) h
  |true=>
   rw[hb]at h;simp only[zi4]at hb;obtain⟨hb,hq,hs⟩:=hb;obtain rfl:=zi6 hb;simp only[cond_true]at h;split at h
   ·rename_i z hz;have hh:=qcd h;clear h;obtain⟨y,hF,h⟩:=hh;have q:=qmo (d:=d) (ty:=ty) (ats:=ats) hq hs hz hF;rw[qlx]at q;refine⟨QS.q q ?_⟩;have:=(hK _ h).out;rwa [qay]at this
   ·exact qqc hK (T:=T) h
theorem qpv{wr:Opt}{T:List (Ctr P)}[Tys P][TyX P]{s:ESt}{op:Op}{K:ESt->Option ρ}{res:ρ}(hK:∀s',K s'=some res->QST P K0 L s')(h:qz9 wr T s d op K=some res):QST P K0 (⟨d,op,ty,none⟩::L) s:=by
 unfold qz9 at h;cases hp:qmv op with
 |true=>
  rw[hp]at h;simp only[cond_true]at h;obtain⟨u,h1,h2⟩:=qvn (s:=s.only (rds op)) h;refine⟨QS.o (u:=toV s.heap.len u) (by rw[<- qlx];exact h1 d ty) ?_⟩
  have:=(hK _ h2).out;rwa [qay]at this
 |false=>
  rw[hp]at h;simp only[cond_false]at h;split at h
  ·rename_i c;obtain⟨callee,args,ats⟩:=c;split at h
   ·rename_i f hc;simp only at hc;subst hc;rw[qf2]at h;split at h
    ·exact qq2 hK h
    ·exact qqc hK (qfh h)
   ·cases h
  ·cases h
def qym(wr:Opt)(T:List (Ctr P))[Tys P][TyX P](K:ESt->Option ρ):List GOp->ESt->Option ρ
 |[],s=>K s
 |⟨d,op,ty,none⟩::L,s=>qz9 wr T s d op (qym wr T K L)
 |⟨d,op,ty,some (some t,w)⟩::L,s=>match s.env t with
  |.und=>qym wr T K L (s.put d .und)
  |.b b=>bif Nat.blt t s.nt then
    (bif w then(bif b then qz9 wr T (s.put (some t) (.b true)) d op (qym wr T K L)else qym wr T K L ((s.put (some t) (.b false)).put d .und))
      else(bif b then qym wr T K L ((s.put (some t) (.b true)).put d .und)else qz9 wr T (s.put (some t) (.b false)) d op (qym wr T K L)))else none
  |_=>none
 |⟨_,_,_,some (none,_)⟩::_,_=>none
theorem qfm{wr:Opt}{T:List (Ctr P)}[Tys P][TyX P]{K:ESt->Option ρ}{res:ρ}(hK:∀s',K s'=some res->K0 s'):∀(L:List GOp) (s:ESt),qym wr T K L s=some res->QST P K0 L s
 |[],s,h=>⟨QS.nil ⟨s,rfl,hK _ h⟩⟩
 |⟨d,op,ty,none⟩::L,s,h=>qpv (qfm hK L) h
 |⟨d,op,ty,some (some t,w)⟩::L,s,h=>by
  unfold qym at h;split at h
  ·rename_i hu;have hu:=zes hu;simp only[toV]at hu;refine⟨QS.gu hu ?_⟩;have:=(qfm hK L _ h).out;rwa [qay]at this
  ·rename_i b hb;have hb:=zes hb;simp only[toV]at hb;have hh:=qah h;clear h;obtain⟨hlt,h⟩:=hh;have hlt':Nat.blt t (qbf s).nt=true:=hlt;cases w with
   |true=>
    simp only[cond_true]at h;obtain⟨h1,h2⟩:=ze3 h;refine⟨QS.qri (w:=true) rfl hb hlt' (fun e=>?_) (fun e=>?_)⟩
    ·have:=(qpv (ty:=ty) (qfm hK L) (h1 e)).out;rw[qay]at this;exact QS.gy (by rw[qc9,hlt'];rfl) hlt' this
    ·have:=(qfm hK L _ (h2 e)).out;rw[qay,qay]at this;exact QS.gn (by rw[qc9,hlt'];rfl) hlt' this
   |false=>
    simp only[cond_false]at h;obtain⟨h1,h2⟩:=ze3 h;refine⟨QS.qri (w:=false) rfl hb hlt' (fun e=>?_) (fun e=>?_)⟩
    ·have:=(qfm hK L _ (h1 e)).out;rw[qay,qay]at this;exact QS.gn (by rw[qc9,hlt'];rfl) hlt' this
    ·have:=(qpv (ty:=ty) (qfm hK L) (h2 e)).out;rw[qay]at this;exact QS.gy (by rw[qc9,hlt'];rfl) hlt' this
  ·cases h
 |⟨_,_,_,some (none,_)⟩::_,_,h=>by cases h
def q0w(f:FuncId):List (Ctr P)->Bool
 |[]=>false
 |c::T=>(Nat.beq c.f f&&c.quiet)||q0w f T
def q0v(T:List (Ctr P))(op:Op):Bool:=qmv op||(match op with
 |.call c=>match c.callee with
  |.value (.func f)=>q0w f T
  |_=>false
 | _=>false)
def qop(T:List (Ctr P)):List Oper->Nat->List (Nat×Bool)
 |[],0=>[]
 |[],n=>[(n,true)]
 |o::l,n=>bif q0v T o.op then qop T l (n+1)else(bif Nat.beq n 0 then(1,false)::qop T l 0 else(n,true)::(1,false)::qop T l 0)
def qmf(A:Array Oper):Nat->List (Nat×Bool)->Bool
 |k,[]=>q3r A.size (List.range k)
 |k,(n,true)::l=>chk A (q6y A) (List.range k) ((List.range n).map (k+·))&&qmf A (k+n) l
 |k,(_,false)::l=>zez A (q6y A) (List.range k) k&&qmf A (k+1) l
theorem QS.mono{K K':St->Prop}(hk:∀st,K st->K' st):∀ {L:List GOp} {st:St},QS P K L st->QS P K' L st:=fun h=>by
 induction h with
 |nil h=>exact .nil (hk _ h)
 |cons u h k ih=>exact .cons u h ih
def qj2(wr:Opt)(T:List (Ctr P))[Tys P][TyE P][TyX P](A:Array Oper)(K:ESt->Option ρ):List (Nat×Bool)->Nat->ESt->Option ρ
 |[],k,s=>K s
 |(n,true)::l,k,s=>qym wr T (qj2 wr T A K l (k+n)) (((List.range n).map (k+·)).map (qdi A)) s
 |(_,false)::l,k,s=>q0c wr T (qj2 wr T A K l (k+1)) [qdi A k] s
theorem qj1{wr:Opt}{T:List (Ctr P)}[Tys P][TyE P][TyX P]{A:Array Oper}{K:ESt->Option ρ}{res:ρ}(hK:∀s',K s'=some res->Q .normal s'):∀(l:List (Nat×Bool)) (k:Nat) (s:ESt),qmf A k l=true->qj2 wr T A K l k s=some res ->
  qe7 P A (fun _=>false) (List.range k) (qe9 Q) (qbf s)
 |[],k,s,hc,h=>qe7.done hc ⟨s,rfl,hK _ h⟩
 |(n,true)::l,k,s,hc,h=>by
  simp only[qmf,zi4]at hc;refine qe7.quiet (qu8.bef A) _ hc.1 (QS.mono ?_ (qfm (K0:=fun s=>qj2 wr T A K l (k+n) s=some res) (fun s' h=>h) _ _ h).out)
  rintro st ⟨s',rfl,h'⟩
  have:=qj1 hK l (k+n) s' hc.2 h';rwa [List.range_add]at this
 |(_,false)::l,k,s,hc,h=>by
  simp only[qmf,zi4]at hc;have hs:=(qge (Q:=fun e s=>match e with | .normal=>qj2 wr T A K l (k+1) s=some res|_=>False) (fun s' h=>h) _ _ h).out;refine qe7.step (qu8.bef A) k hc.1 (.inl ⟨rfl,⟨fun E M F a w r=>?_⟩⟩);have:=hs.out E M F a w r;refine qlm ?_ _ _ _ this
  rintro e st ⟨s',rfl,h'⟩
  cases e<;>first|exact h'.elim|skip
  have:=qj1 hK l (k+1) s' hc.2 h';rwa [List.range_succ]at this
def brO{ρ:Type}(x y:Option ρ):Option ρ:=@ite _ (x=y) (Classical.propDecidable _) x none
theorem zay{ρ:Type}{x y:Option ρ}{r:ρ}(h:brO x y=some r):x=some r/\y=some r:=by
 unfold brO at h;split at h
 ·rename_i e;exact⟨h,e▸h⟩
 ·cases h
@[simp] theorem qlt{ρ:Type}(x:Option ρ):brO x x=x:=by unfold brO;rw[if_pos rfl]
def isI:EV->Bool
 |.i _ _=>true
 |_=>false
def qk3(T:List (Ctr P))(A:Array Oper)(i:Nat):Bool:=match(qdi A i).g with
 |none=>zea T (qdi A i).op
 |some _=>false
def ziw:Operand->Bool
 |.tmp _=>true
 |.const (.int _ _)=>true
 |_=>false
def q8h(P:Program)[Tys P](A:Array Oper)(ab:List Nat)(J:Nat->Bool)(D:List Nat):List Nat->Nat×Nat
 |[]=>(0,0)
 |i::l=>bif cnB P ziw (qdi A i).op&&zfr A D i then(1,i)else(bif zfq P A ab J D i then(2,i)else q8h P A ab J D l)
def qer(T:List (Ctr P))(A:Array Oper):List Nat->List Nat
 |[]=>[]
 |i::l=>bif q0v T (qdi A i).op then i::qer T A l else []
def zix:List Nat->Bool
 |[]=>true
 |_=>false
def qxr(T:List (Ctr P))[Tys P](A:Array Oper)(ab:List Nat):Nat->List Nat->List Nat->Pn
 |0,_,_=>.no
 |n+1,D,l=>match l with
  |[]=>.nil
  |i::m=>bif !(zix (qer T A l))&&chk A ab D (qer T A l)then .qu (qer T A l) (qxr T A ab n (D++qer T A l) (l.drop (qer T A l).length))
   else(bif zez A ab D i then .on i (qxr T A ab n (D++[i]) m)else(match q8h P A ab (qk3 T A) D l with
    |(1,j)=>.fl j (qxr T A ab n (D++[j]) (l.filter fun k=>!Nat.beq k j))
    |(2,j)=>.rd j (qxr T A ab n (D++[j]) (l.filter fun k=>!Nat.beq k j))
    | _=>bif Nat.ble l.length 12 then(q5h A D).foldr (fun j q=>.br j (qxr T A ab n (D++[j]) (l.filter fun k=>!Nat.beq k j)) q) .no else .no))
def qyj:Pn->List Nat
 |.br i _ q=>i::qyj q
 |_=>[]
def qcr(P:Program)[Tys P](T:List (Ctr P))(A:Array Oper)(ab:List Nat):Pn->Bool->List Nat->Bool
 |.nil,b,D=>!b&&q3r A.size D
 |.fl i p,b,D=>!b&&(zfr A D i&&qcr P T A ab p false (D++[i]))
 |.rd i p,b,D=>!b&&(zfq P A ab (qk3 T A) D i&&qcr P T A ab p false (D++[i]))
 |.qu X p,b,D=>!b&&(chk A ab D X&&qcr P T A ab p false (D++X))
 |.on i p,b,D=>!b&&(zez A ab D i&&qcr P T A ab p false (D++[i]))
 |.br i p q,b,D=>(b||q1o (i::qyj q) (q5h A D))&&(qcr P T A ab p false (D++[i])&&qcr P T A ab q true D)
 |.no,b,_=>b
def qok(wr:Opt)(T:List (Ctr P))[Tys P][TyE P][TyX P](A:Array Oper)(i:Nat)(K:ESt->Option ρ)(s:ESt):Option ρ:=
 bif qk3 T A i then zgm T K (qdi A i) s else q0c wr T K [qdi A i] s
def qb3(wr:Opt)(T:List (Ctr P))[Tys P][TyE P][TyX P](A:Array Oper)(K:ESt->Option ρ):Pn->ESt->Option ρ
 |.nil,s=>K s
 |.fl i p,s=>bif cnB P (fun x=>isI (s.eval x)) (qdi A i).op then qym wr T (qb3 wr T A K p) [qdi A i] s else none
 |.rd i p,s=>qym wr T (qb3 wr T A K p) [qdi A i] s
 |.qu X p,s=>qym wr T (qb3 wr T A K p) (X.map (qdi A)) s
 |.on i p,s=>qok wr T A i (qb3 wr T A K p) s
 |.br i p .no,s=>qok wr T A i (qb3 wr T A K p) s
 |.br i p q,s=>brO (qok wr T A i (qb3 wr T A K p) s) (qb3 wr T A K q s)
 |.no,_=>none
theorem qmb{wr:Opt}{T:List (Ctr P)}[Tys P][TyE P][TyX P]{A:Array Oper}{i:Nat}{K:ESt->Option ρ}{s:ESt}{res:ρ}{K1:St->Prop}(h:qok wr T A i K s=some res)(hK:∀s',K s'=some res->K1 (qbf s')) :
  (qk3 T A i=false/\SL P [qdi A i] (qhb K1) (qbf s))\/SLG P (qdi A i) K1 (qbf s):=by
 unfold qok at h;cases hg:qk3 T A i with
 |true=>
  rw[hg]at h;have h1:=(q9d (K1:=fun s=>K s=some res) (fun s' h=>h) h).out;refine .inr ⟨fun E M F a w r=>?_⟩;obtain⟨e,h2⟩:=h1.out E M F a w r;refine⟨e,Oper.wp_mono (fun a' w' ⟨g,ι',F',st',r',s',e1,hk⟩=>⟨g,ι',F',st',r',?_⟩) h2⟩;subst e1;exact hK s' hk
 |false=>
  rw[hg]at h;have hs:=(qge (Q:=fun e s=>match e with | .normal=>K s=some res|_=>False) (fun s' h=>h) _ _ h).out;refine .inl ⟨rfl,⟨fun E M F a w r=>?_⟩⟩;have:=hs.out E M F a w r;refine qlm ?_ _ _ _ this
  rintro e st ⟨s',rfl,h'⟩
  cases e<;>first|exact h'.elim|skip
  exact hK s' h'
theorem zah{a b:List Nat}(h:q1o a b=true):a=b:=qhy.1 h
theorem qc2{wr:Opt}{T:List (Ctr P)}[Tys P][TyE P][TyX P]{A:Array Oper}{ab:List Nat}(hab:qu8 A ab){K:ESt->Option ρ}{res:ρ}(hK:∀s',K s'=some res->Q .normal s'):∀(p:Pn) (D:List Nat) (s:ESt),
  (qcr P T A ab p false D=true->qb3 wr T A K p s=some res->qe7 P A (qk3 T A) D (qe9 Q) (qbf s)) /\
  (qcr P T A ab p true D=true->p≠.no->qb3 wr T A K p s=some res->∀e∈qyj p,(qk3 T A e=false/\SL P [qdi A e] (qhb (qe7 P A (qk3 T A) (D++[e]) (qe9 Q))) (qbf s))\/SLG P (qdi A e) (qe7 P A (qk3 T A) (D++[e]) (qe9 Q)) (qbf s))
 |.nil,D,s=>by
  refine⟨fun hc h=>?_,fun hc=>by cases hc⟩;simp only[qcr,zi4]at hc;exact qe7.done hc.2 ⟨s,rfl,hK _ h⟩
 |.no,D,s=>⟨fun hc=>(by cases hc),fun _ h=>absurd rfl h⟩
 |.fl i p,D,s=>by
  refine⟨fun hc h=>?_,fun hc=>by simp[qcr]at hc⟩;simp only[qcr,zi4]at hc;unfold qb3 at h;have hh:=qah h;clear h;obtain⟨hcn,h⟩:=hh;refine qe7.ze4 i (fun x=>isI (s.eval x)) (fun x hx=>?_) hcn hc.2.1 (QS.mono ?_ (qfm (K0:=fun s=>qb3 wr T A K p s=some res) (fun s' h=>h) _ _ h).out)
  ·cases he:s.eval x<;>rw[he]at hx<;>first|cases hx|skip
   rename_i k n;exact⟨k,n,eval_eq he rfl⟩
  ·rintro st ⟨s',rfl,h'⟩
   exact(qc2 hab hK p (D++[i]) s').1 hc.2.2 h'
 |.rd i p,D,s=>by
  refine⟨fun hc h=>?_,fun hc=>by simp[qcr]at hc⟩;simp only[qcr,zi4]at hc;unfold qb3 at h;refine qe7.ahead hab i hc.2.1 (QS.mono ?_ (qfm (K0:=fun s=>qb3 wr T A K p s=some res) (fun s' h=>h) _ _ h).out)
  rintro st ⟨s',rfl,h'⟩
  exact(qc2 hab hK p (D++[i]) s').1 hc.2.2 h'
 |.qu X p,D,s=>by
  refine⟨fun hc h=>?_,fun hc=>by simp[qcr]at hc⟩;simp only[qcr,zi4]at hc;unfold qb3 at h;refine qe7.quiet hab _ hc.2.1 (QS.mono ?_ (qfm (K0:=fun s=>qb3 wr T A K p s=some res) (fun s' h=>h) _ _ h).out)
  rintro st ⟨s',rfl,h'⟩
  exact(qc2 hab hK p (D++X) s').1 hc.2.2 h'
 |.on i p,D,s=>by
  refine⟨fun hc h=>?_,fun hc=>by simp[qcr]at hc⟩;simp only[qcr,zi4]at hc;unfold qb3 at h;exact qe7.step hab i hc.2.1 (qmb h fun s' h'=>(qc2 hab hK p (D++[i]) s').1 hc.2.2 h')
 |.br i p q,D,s=>by
  have key:∀b,qcr P T A ab (.br i p q) b D=true->qb3 wr T A K (.br i p q) s=some res->∀e∈qyj (.br i p q),(qk3 T A e=false/\SL P [qdi A e] (qhb (qe7 P A (qk3 T A) (D++[e]) (qe9 Q))) (qbf s))\/SLG P (qdi A e) (qe7 P A (qk3 T A) (D++[e]) (qe9 Q)) (qbf s):=by
   intro b hc h e he;simp only[qcr,zi4]at hc;by_cases hq:q=.no
   ·subst hq;simp only[qyj,zjx,List.not_mem_nil,or_false]at he;subst he;exact qmb h fun s' h'=>(qc2 hab hK p (D++[e]) s').1 hc.2.1 h'
   ·have h:brO (qok wr T A i (qb3 wr T A K p) s) (qb3 wr T A K q s)=some res:=by
     cases q<;>first|exact absurd rfl hq|exact h
    obtain⟨h1,h2⟩:=zay h;simp only[qyj,zjx]at he;rcases he with rfl|he
    ·exact qmb h1 fun s' h'=>(qc2 hab hK p (D++[e]) s').1 hc.2.1 h'
    ·exact(qc2 hab hK q D s).2 hc.2.2 hq h2 e he
  refine⟨fun hc h=>?_,fun hc _ h=>key true hc h⟩;have hc':=hc;simp only[qcr,Bool.false_or,zi4]at hc';have he:=zah hc'.1;refine qe7.branch (by rw[<- he];rfl) fun e hm=>key false hc h e ?_
  rw[<- he]at hm;exact hm
def q7z(T:List (Ctr P))[Tys P](A:Array Oper)(ab:List Nat):Pn:=qxr T A ab (A.size+1) [] (List.range A.size)
def zh7:Pn->Bool
 |.no=>true
 |_=>false
def qts(wr:Opt)(T:List (Ctr P))[Tys P][TyE P][TyX P](A:Array Oper)(draw:Bool)(K:ESt->Option ρ)(s:ESt):Option ρ:=
 bif draw then(bif zh7 wr.pl then(bif qmf A 0 (qop T A.toList 0)then qj2 wr T A K (qop T A.toList 0) 0 s else
  (bif qcr P T A (q6y A) (q7z T A (q6y A)) false []then qb3 wr T A K (q7z T A (q6y A)) s else none))
  else(bif ze5 A wr.ab&&qcr P T A wr.ab wr.pl false []then qb3 wr T A K wr.pl s else none))else q0c wr T K (zbt A) s
theorem qxo{wr:Opt}{T:List (Ctr P)}[Tys P][TyE P][TyX P][m:qu6 P]{A:Array Oper}{draw:Bool}{K:ESt->Option ρ}{res:ρ}{id:Nat}{s:ESt}(hK:∀s',K s'=some res->Q .normal s')(h:qts wr T A draw K s=some res):SCT P (.region id A draw) Q s:=by
 unfold qts at h;cases draw with
 |true=>
  simp only[cond_true]at h;cases hno:zh7 wr.pl with
  |false=>
   rw[hno]at h;simp only[cond_false]at h;have hh:=qah h;clear h;obtain⟨hc,h⟩:=hh;simp only[zi4]at hc;exact⟨SC.draw m.m ((qc2 (qu8.of hc.1) hK _ [] s).1 hc.2 h)⟩
  |true=>
  rw[hno]at h;simp only[cond_true]at h;cases hp:qmf A 0 (qop T A.toList 0)with
  |true=>
   rw[hp]at h;exact⟨SC.draw m.m (qj1 hK _ 0 s hp h)⟩
  |false=>
   rw[hp]at h;simp only[cond_false]at h;have hh:=qah h;clear h;obtain⟨hc,h⟩:=hh;exact⟨SC.draw m.m ((qc2 (qu8.bef A) hK _ [] s).1 hc h)⟩
 |false=>exact⟨SC.region (qge hK _ _ h).out⟩
def ESt.mdd(s:ESt)(l:List Nat):ESt:={ s with heap:={ s.heap with md:=l } }
theorem qbz.up{s:ESt}{k:Nat}{e:TypeId}{i j:Nat}{f:SU.D i->SU.D j}{l:List (SU.D i)}(ho:s.heap.obj k=.lst ⟨e,.st i,l⟩)(h:qa3.upF i j=some f):qbz s (s.on (s.heap.set k (.lst ⟨e,.st j,l.map f⟩))):=by
 unfold qbz;rw[qpp ho h];exact qbz.refl s
def qzq(s:ESt)(K:ESt->Option ρ):List (Nat×Nat)->Option ρ
 |[]=>K s
 |(t,j)::l=>match s.env t with
  | .qa7 k []=>(match s.heap.obj k with
   | .lst ⟨e,.st i,x⟩=>(match qa3.upF i j with
    |some f=>qzq (s.on (s.heap.set k (.lst ⟨e,.st j,x.map f⟩))) K l
    | none=>(match qyl.dn i j with
     |some g=>qaj (Sp.q75 g x) fun y=>qzq (s.on (s.heap.set k (.lst ⟨e,.st j,y⟩))) K l
     | none=>none))
   | _=>none)
  |_=>none
theorem qbz.dn{s:ESt}{k:Nat}{e:TypeId}{i j:Nat}{g:SU.D i->Option (SU.D j)}{l:List (SU.D i)}{m:List (SU.D j)}(ho:s.heap.obj k=.lst ⟨e,.st i,l⟩)(h:qyl.dn i j=some g)(hm:Sp.q75 g l=some m):qbz s (s.on (s.heap.set k (.lst ⟨e,.st j,m⟩))):=by
 obtain⟨f,hf,hg⟩:=qyl.zet i j g h;have e1:=q1f hg l m hm
 let s':ESt:=s.on (s.heap.set k (.lst ⟨e,.st j,m⟩))
 have ho':s'.heap.obj k=.lst ⟨e,.st j,m⟩:=by show(bif Nat.beq k k then _ else _)=_;rw[zjg];rfl
 have e2:=qpp ho' hf;have e3:s'.on (s'.heap.set k (.lst ⟨e,.st i,m.map f⟩))=s:=by
  rw[e1];obtain⟨nt,env,H⟩:=s;obtain⟨next,lo,md,obj⟩:=H;simp only[s',ESt.on,qad.set];congr 2;funext q;cases hq:Nat.beq q k with
  |true=>
   obtain rfl:=zi6 hq;exact ho.symm
  |false=>simp only[hq,cond_false]
 unfold qbz;rw[e3]at e2;rw[show qbf (s.on (s.heap.set k (.lst ⟨e,.st j,m⟩)))=qbf s from e2.symm];exact qbz.refl s
theorem qlz{K:ESt->Option ρ}{res:ρ}:∀(l:List (Nat×Nat)) (s:ESt),qzq s K l=some res->∃s',qbz s s'/\K s'=some res
 |[],s,h=>⟨s,qbz.refl s,h⟩
 |(t,j)::l,s,h=>by
  unfold qzq at h;split at h
  ·split at h
   ·rename_i ho;split at h
    ·rename_i f hf;obtain⟨s',w,h'⟩:=qlz l _ h;exact⟨s',(qbz.up ho hf).trans w,h'⟩
    ·split at h
     ·rename_i g hg;obtain⟨y,hy,h⟩:=qcd h;obtain⟨s',w,h'⟩:=qlz l _ h;exact⟨s',(qbz.dn ho hg hy).trans w,h'⟩
     ·cases h
   ·cases h
  ·cases h
def qz8(wr:Opt)(T:List (Ctr P))[Tys P][TyE P][TyX P](A:Array Oper)(draw:Bool)(K:ESt->Option ρ)(s:ESt):Option ρ:=
 qzq (s.mdd wr.md) (qts wr T A draw K) wr.rt
theorem qz7{wr:Opt}{T:List (Ctr P)}[Tys P][TyE P][TyX P][m:qu6 P]{A:Array Oper}{draw:Bool}{K:ESt->Option ρ}{res:ρ}{id:Nat}{s:ESt}(hK:∀s',K s'=some res->Q .normal s')(h:qz8 wr T A draw K s=some res):SCT P (.region id A draw) Q s:=by
 obtain⟨s',w,h⟩:=qlz _ _ h;have:=SCT.weak w (qxo (id:=id) hK h);exact⟨this.out⟩
end
end
end Go.Abs
namespace Go.Abs
open Go
noncomputable section
variable {P:Program}
section
variable {D X:Type}
def qjg(f:D->Option (D⊕X)):Nat->D->Option X
 |0,_=>none
 |n+1,y=>match f y with
  |some (.inl z)=>qjg f n z
  |some (.inr x)=>some x
  |none=>none
theorem qqk{f:D->Option (D⊕X)}:∀ {n:Nat} {y:D} {x:X},qjg f n y=some x->∀m,n<=m->qjg f m y=some x
 |0,_,_,h,_,_=>by cases h
 |n+1,y,x,h,0,hm=>by omega
 |n+1,y,x,h,m+1,hm=>by
  simp only[qjg]at h ⊢;split at h
  ·exact qqk h m (by omega)
  ·exact h
  ·cases h
open Classical in
noncomputable def qap(f:D->Option (D⊕X))(y:D):Option X:=if h:∃n x,qjg f n y=some x then some (Classical.choose (Classical.choose_spec h))else none
theorem qjw{f:D->Option (D⊕X)}{y:D}{x:X}:qap f y=some x↔∃n,qjg f n y=some x:=by
 unfold qap
 constructor
 ·intro h;split at h
  ·rename_i hh;injection h with h;subst h;exact⟨_,Classical.choose_spec (Classical.choose_spec hh)⟩
  ·cases h
 ·rintro⟨n,hn⟩
  have hh:∃n x,qjg f n y=some x:=⟨n,x,hn⟩
  rw[dif_pos hh];have h2:=Classical.choose_spec (Classical.choose_spec hh);have a:=qqk h2 (max n (Classical.choose hh)) (Nat.le_max_right _ _);have b:=qqk hn (max n (Classical.choose hh)) (Nat.le_max_left _ _);rw[a]at b;exact b
theorem qbt(f:D->Option (D⊕X))(y:D):qap f y=match f y with
  |some (.inl z)=>qap f z
  |some (.inr x)=>some x
  |none=>none:=by
 have key:∀x,qap f y=some x↔(match f y with
  |some (.inl z)=>qap f z
  |some (.inr x)=>some x
  | none=>none)=some x:=by
  intro x;rw[qjw];cases hf:f y with
  |none=>
   simp only
   constructor
   ·rintro⟨n,hn⟩;cases n<;>simp[qjg,hf]at hn
   ·intro h;cases h
  |some v=>
   cases v with
   |inl z=>
    simp only;rw[qjw]
    constructor
    ·rintro⟨n,hn⟩
     cases n with
     |zero=>cases hn
     |succ n=>simp only[qjg,hf]at hn;exact⟨n,hn⟩
    ·rintro⟨n,hn⟩;exact⟨n+1,by simp only[qjg,hf];exact hn⟩
   |inr x'=>
    simp only
    constructor
    ·rintro⟨n,hn⟩
     cases n with
     |zero=>cases hn
     |succ n=>simp only[qjg,hf]at hn;exact hn
    ·intro h;exact⟨1,by simp only[qjg,hf];exact h⟩
 cases h1:qap f y with
 |some x=>exact((key x).1 h1).symm
 |none=>
  cases h2:(match f y with
  |some (.inl z)=>qap f z
  |some (.inr x)=>some x
  | none=>none)with
  |none=>rfl
  |some x=>rw[(key x).2 h2]at h1;cases h1
def qgu{ρ A B:Type}(f:A->Option ρ)(g:B->Option ρ)(x:A⊕B):Option ρ:=match x with
 |.inl a=>f a
 |.inr b=>g b
def jpO{ρ:Type}(f:D->Option ρ)(g:(D->Option ρ)->Option ρ):Option ρ:=g f
end
inductive Ek where
 |ret
 |exit (n:Nat)
def Ek.ex:Ek->Exit
 |.ret=>.ret
 |.exit n=>.exit n
def Ek.is:Ek->Exit->Bool
 |.ret,.ret=>true
 |.exit n,.exit m=>Nat.beq n m
 |_,_=>false
theorem Ek.qo0{k:Ek}{e:Exit}(h:k.is e=true):e=k.ex:=by
 cases k<;>cases e<;>first|rfl|(cases h;done)|(obtain rfl:=zi6 h;rfl)
inductive Ann where
 |o
 |w
 |x (o:Opt)
 |seq (a b:Ann)
 |join (sh:SSh) (a b:Ann)
 |cond (a b:Ann)
 |block (a:Ann)
 |loop (sh:SSh) (ex:List (Ek×SSh)) (a:Ann)
def Ann.wr:Ann->Opt
 |.w=>{ wr:=true }
 |.x q=>q
 |_=>{}
section
variable [SU] [qa3] [qyl] [FFs]
@[reducible] def SSh.D (sh:SSh):Type:=DT sh.sl×DO sh.os
@[reducible] def ExD:List (Ek×SSh)->Type
 |[]=>Empty
 |[a]=>a.2.D
 |a::b::l=>a.2.D⊕ExD (b::l)
variable {ρ:Type}
def up1(s:ESt):OSh->Option Nat->ESt
 | .lst _ (.st j),some k=>(match s.heap.obj k with
  | .lst ⟨e,.st i,l⟩=>(match qa3.upF i j with
   |some f=>s.on (s.heap.set k (.lst ⟨e,.st j,l.map f⟩))
   | none=>s)
  | _=>s)
 |_,_=>s
def upS:List OSh->List (Option Nat)->ESt->ESt
 |[],_,s=>s
 |_::_,[],s=>s
 |o::os,k::ks,s=>upS os ks (up1 s o k)
theorem zb7(s:ESt)(o:OSh)(k:Option Nat):qbf (up1 s o k)=qbf s:=by
 unfold up1;split
 ·split
  ·rename_i ho;split
   ·rename_i f hf;exact qpp ho hf
   ·rfl
  ·rfl
 ·rfl
theorem q67:∀(os:List OSh) (ks:List (Option Nat)) (s:ESt),qbf (upS os ks s)=qbf s
 |[],_,_=>rfl
 |_::_,[],_=>rfl
 |o::os,k::ks,s=>(q67 os ks (up1 s o k)).trans (zb7 s o k)
def qn5(nt lo:Nat)(s:ESt)(sh:SSh)(K:sh.D->Option ρ):Option ρ:=bif Nat.beq s.nt nt&&Nat.beq s.heap.lo lo then(match exS (upS sh.os (q1p s sh) s) (q1p s sh) sh with
 |some z=>K z
 | none=>none)else none
theorem qe0{nt lo:Nat}{s:ESt}{sh:SSh}{K:sh.D->Option ρ}{r:ρ}(h:qn5 nt lo s sh K=some r):∃z,qbz s (mkS nt lo sh z.1 z.2)/\K z=some r:=by
 unfold qn5 at h;have hh:=qah h;clear h;obtain⟨hb,h⟩:=hh;simp only[zi4]at hb;obtain rfl:=qbj hb.1;obtain rfl:=qbj hb.2;split at h
 ·rename_i z hz;have e:=q67 sh.os (q1p s sh) s;have e1:(upS sh.os (q1p s sh) s).nt=s.nt:=congrArg St.nt e;have e2:(upS sh.os (q1p s sh) s).heap.lo=s.heap.lo:=congrArg (fun x:St=>x.heap.lo) e;have w:=zer hz;unfold qbz at w ⊢;rw[e,e1,e2]at w;exact⟨z,w,h⟩
 ·cases h
def qul(nt lo:Nat)(s:ESt)(e:Exit):(l:List (Ek×SSh))->(ExD l->Option ρ)->Option ρ
 |[],_=>none
 |[a],K=>bif a.1.is e then qn5 nt lo s a.2 K else none
 |a::b::l,K=>bif a.1.is e then qn5 nt lo s a.2 (fun z=>K (.inl z))else qul nt lo s e (b::l) (fun z=>K (.inr z))
def qvx(nt lo:Nat)(k:Exit->ESt->Option ρ):(l:List (Ek×SSh))->ExD l->Option ρ
 |[],_=>none
 |[a],z=>k a.1.ex (mkS nt lo a.2 z.1 z.2)
 |a::b::l,z=>qgu (fun z=>k a.1.ex (mkS nt lo a.2 z.1 z.2)) (fun z=>qvx nt lo k (b::l) z) z
theorem qm9{nt lo:Nat}{s:ESt}{e:Exit}{k:Exit->ESt->Option ρ}:∀ {l:List (Ek×SSh)} {σ:Type} {K:ExD l->Option σ} {x:σ},qul nt lo s e l K=some x->∃z,K z=some x/\∃s',qbz s s'/\∀r,qvx nt lo k l z=some r->k e s'=some r
 |[],_,_,_,h=>by cases h
 |[a],σ,K,x,h=>by
  unfold qul at h;have hh:=qah h;clear h;obtain⟨hb,h⟩:=hh;obtain⟨z,w,h⟩:=qe0 h;exact⟨z,h,_,w,fun r hr=>by rw[Ek.qo0 hb];exact hr⟩
 |a::b::l,σ,K,x,h=>by
  unfold qul at h;cases hb:a.1.is e with
  |true=>
   rw[hb]at h;obtain⟨z,w,h⟩:=qe0 h;exact⟨.inl z,h,_,w,fun r hr=>by rw[Ek.qo0 hb];exact hr⟩
  |false=>
   rw[hb]at h;obtain⟨z,h1,s',w,h2⟩:=qm9 (l:=b::l) h;exact⟨.inr z,h1,s',w,h2⟩
def qxf(K:ESt->Option ρ)(k:Exit->ESt->Option ρ):Exit->ESt->Option ρ
 |.normal,s=>K s
 |e,s=>k e s
def inK(id:Nat)(k:Exit->ESt->Option ρ):Exit->ESt->Option ρ
 |.exit id',s=>bif Nat.beq id' id then k .normal s else k (.exit id') s
 |e,s=>k e s
def q0j(nt lo:Nat)(sh:SSh)(ex:List (Ek×SSh)):Exit->ESt->Option (sh.D⊕ExD ex)
 |.normal,s=>qn5 nt lo s sh (fun z=>some (.inl z))
 |e,s=>qul nt lo s e ex (fun z=>some (.inr z))
noncomputable def qif(T:List (Ctr P))[Tys P][TyE P][TyX P](nt lo:Nat):Ann->Code->{ρ:Type}->(Exit->ESt->Option ρ)->ESt->Option ρ
 |_,.skip,_,k,s=>k .normal s
 |_,.exit id,_,k,s=>k (.exit id) s
 |_,.ret,_,k,s=>k .ret s
 |a,.region _ A draw,_,k,s=>qz8 a.wr T A draw (k .normal) s
 |.seq a b,.seq x y,_,k,s=>qif T nt lo a x (qxf (qif T nt lo b y k) k) s
 |.o,.seq x y,_,k,s=>qif T nt lo .o x (qxf (qif T nt lo .o y k) k) s
 |.join sh a b,.seq x y,_,k,s=>jpO (fun z:sh.D=>qif T nt lo b y k (mkS nt lo sh z.1 z.2)) fun j=>qif T nt lo a x (qxf (fun s'=>qn5 nt lo s' sh j) k) s
 |.cond a b,.cond (.tmp t) x y,_,k,s=>match s.env t with
  |.b c=>bif Nat.blt t s.nt then(bif c then qif T nt lo a x k (s.put (some t) (.b true))else qif T nt lo b y k (s.put (some t) (.b false)))else none
  |_=>none
 |.o,.cond (.tmp t) x y,_,k,s=>match s.env t with
  |.b c=>bif Nat.blt t s.nt then(bif c then qif T nt lo .o x k (s.put (some t) (.b true))else qif T nt lo .o y k (s.put (some t) (.b false)))else none
  |_=>none
 |.cond a b,.cond (.const (.bool c)) x y,_,k,s=>bif c then qif T nt lo a x k s else qif T nt lo b y k s
 |.o,.cond (.const (.bool c)) x y,_,k,s=>bif c then qif T nt lo .o x k s else qif T nt lo .o y k s
 |.block a,.block id x,_,k,s=>qif T nt lo a x (inK id k) s
 |.o,.block id x,_,k,s=>qif T nt lo .o x (inK id k) s
 |.loop sh ex a,.loop x,_,k,s=>qn5 nt lo s sh fun y0=>
   qaj (qap (fun y=>qif T nt lo a x (q0j nt lo sh ex) (mkS nt lo sh y.1 y.2)) y0) fun z=>qvx nt lo k ex z
 |_,_,_,_,_=>none
def Down(Q:Exit->ESt->Prop):Prop:=∀e s s',qbz s s'->Q e s'->Q e s
theorem qed(T:List (Ctr P))[Tys P][TyE P][TyX P][qu6 P](nt lo:Nat):∀(c:Code) (a:Ann) {ρ:Type} (k:Exit->ESt->Option ρ) (s:ESt) (res:ρ) (Q:Exit->ESt->Prop),Down Q->(∀e s',k e s'=some res->Q e s')->qif T nt lo a c k s=some res->SCT P c Q s
 |.skip,a,ρ,k,s,res,Q,hQ,hk,h=>by
  have h:k .normal s=some res:=by cases a<;>exact h
  exact⟨SC.skip ⟨s,rfl,hk _ _ h⟩⟩
 |.exit id,a,ρ,k,s,res,Q,hQ,hk,h=>by
  have h:k (.exit id) s=some res:=by cases a<;>exact h
  exact⟨SC.exit ⟨s,rfl,hk _ _ h⟩⟩
 |.ret,a,ρ,k,s,res,Q,hQ,hk,h=>by
  have h:k .ret s=some res:=by cases a<;>exact h
  exact⟨SC.ret ⟨s,rfl,hk _ _ h⟩⟩
 |.region id A draw,a,ρ,k,s,res,Q,hQ,hk,h=>by
  have h:qz8 a.wr T A draw (k .normal) s=some res:=by cases a<;>exact h
  exact qz7 (fun s'=>hk _ _) h
 |.seq x y,a,ρ,k,s,res,Q,hQ,hk,h=>by
  have key:∀a b,qif T nt lo a x (qxf (qif T nt lo b y k) k) s=some res->SCT P (.seq x y) Q s:=fun a b h=>by
   refine SCT.seq' (qed T nt lo x a (qxf (qif T nt lo b y k) k) s res _ (fun e s s' w q=>?_) (fun e s' q=>?_) h)
   ·cases e<;>first|exact SCT.weak w q|exact hQ _ _ _ w q
   ·cases e<;>first|exact qed T nt lo y b k s' res Q hQ hk q|exact hk _ _ q
  cases a with
  |o=>exact key _ _ h
  |seq a b=>exact key _ _ h
  |join sh a b=>
   have h:qif T nt lo a x (qxf (fun s'=>qn5 nt lo s' sh (fun z:sh.D=>qif T nt lo b y k (mkS nt lo sh z.1 z.2))) k) s=some res:=h;refine SCT.seq' (qed T nt lo x a _ s res _ (fun e s s' w q=>?_) (fun e s' q=>?_) h)
   ·cases e<;>first|exact SCT.weak w q|exact hQ _ _ _ w q
   ·cases e<;>first|(obtain⟨z,w,q⟩:=qe0 q;exact SCT.weak w (qed T nt lo y b k _ res Q hQ hk q))|exact hk _ _ q
  |_=>cases h
 |.cond (.tmp t) x y,a,ρ,k,s,res,Q,hQ,hk,h=>by
  have key:∀a b,(match s.env t with
   |.b c=>bif Nat.blt t s.nt then(bif c then qif T nt lo a x k (s.put (some t) (.b true))else qif T nt lo b y k (s.put (some t) (.b false)))else none
   | _=>none)=some res->SCT P (.cond (.tmp t) x y) Q s:=fun a b h=>by
   split at h
   ·rename_i c hc;have hb:=zes hc;simp only[toV]at hb;have hh:=qah h;clear h;obtain⟨hlt,h⟩:=hh;obtain⟨h1,h2⟩:=ze3 h;refine⟨SC.cond (b:=c) hb (fun e=>?_) (fun e=>?_)⟩
    ·have:=(qed T nt lo x a k _ res Q hQ hk (h1 e)).out;rw[qay]at this;rwa [St.zbw (by rw[hb,e];simp only[toV]) hlt]at this
    ·have:=(qed T nt lo y b k _ res Q hQ hk (h2 e)).out;rw[qay]at this;rwa [St.zbw (by rw[hb,e];simp only[toV]) hlt]at this
   ·cases h
  cases a with
  |o=>exact key _ _ h
  |cond a b=>exact key _ _ h
  |_=>cases h
 |.block id x,a,ρ,k,s,res,Q,hQ,hk,h=>by
  have key:∀a,qif T nt lo a x (inK id k) s=some res->SCT P (.block id x) Q s:=fun a h=>by
   refine SCT.block (qed T nt lo x a (inK id k) s res _ (fun e s s' w q=>?_) (fun e s' q=>?_) h)
   ·cases e with
    |exit id'=>
     simp only[inT]at q ⊢;cases hb:Nat.beq id' id<;>rw[hb]at q<;>exact hQ _ _ _ w q
    |_=>exact hQ _ _ _ w q
   ·cases e with
    |exit id'=>
     simp only[inT,inK]at q ⊢;cases hb:Nat.beq id' id<;>rw[hb]at q<;>exact hk _ _ q
    |_=>exact hk _ _ q
  cases a with
  |o=>exact key _ h
  |block a=>exact key _ h
  |_=>cases h
 |.loop x,a,ρ,k,s,res,Q,hQ,hk,h=>by
  cases a with
  |loop sh ex a=>
   have h:(qn5 nt lo s sh fun y0=>
    qaj (qap (fun y=>qif T nt lo a x (q0j nt lo sh ex) (mkS nt lo sh y.1 y.2)) y0) fun z=>qvx nt lo k ex z)=some res:=h
   obtain⟨y0,w0,h⟩:=qe0 h;obtain⟨z,hz,h⟩:=qcd h;obtain⟨n,hn⟩:=qjw.1 hz;refine SCT.weak w0 (SCT.loop fun J hW hJ=>?_);have main:∀n y,qjg (fun y:sh.D=>qif T nt lo a x (q0j nt lo sh ex) (mkS nt lo sh y.1 y.2)) n y=some z->J (mkS nt lo sh y.1 y.2):=by
    intro n
    induction n with
    |zero=>intro y hy;cases hy
    |succ n ih=>
     intro y hy;simp only[qjg]at hy;split at hy
     ·rename_i y' hf;refine hJ _ (qed T nt lo x a _ _ _ _ (fun e s s' w q=>?_) (fun e s' q=>?_) hf)
      ·cases e<;>first|exact hW _ _ w q|exact hQ _ _ _ w q
      ·have no:∀e,qul nt lo s' e ex (fun z=>some (Sum.inr z:sh.D⊕ExD ex))=some (.inl y')->False:=fun e q=>by
        obtain⟨z,q,_⟩:=qm9 (ρ:=ρ) (k:=k) q;cases q
       cases e<;>first
        |(obtain⟨z,w,q⟩:=qe0 q;injection q with q;injection q with q;subst q;exact hW _ _ w (ih _ hy))
        |exact(no _ q).elim
     ·rename_i z' hf;injection hy with hy;subst hy;refine hJ _ (qed T nt lo x a _ _ _ _ (fun e s s' w q=>?_) (fun e s' q=>?_) hf)
      ·cases e<;>first|exact hW _ _ w q|exact hQ _ _ _ w q
      ·have yes:∀e,qul nt lo s' e ex (fun z=>some (Sum.inr z:sh.D⊕ExD ex))=some (.inr z')->Q e s':=fun e q=>by
        obtain⟨z,q,s1,w,q2⟩:=qm9 (ρ:=ρ) (k:=k) q;injection q with q;injection q with q;subst q;exact hQ _ _ _ w (hk _ _ (q2 _ h))
       cases e<;>first
        |(obtain⟨z,w,q⟩:=qe0 q;cases q;done)
        |exact yes _ q
     ·cases hy
   exact main n y0 hn
  |_=>cases h
 |.cond (.const v) x y,a,ρ,k,s,res,Q,hQ,hk,h=>by
  have key:∀a b c,v=.bool c->(bif c then qif T nt lo a x k s else qif T nt lo b y k s)=some res->SCT P (.cond (.const v) x y) Q s:=fun a b c hv g=>by
   clear h;subst hv;have hb:(qbf s).eval (.const (.bool c))=.t (.bool c):=rfl;refine⟨SC.cond (b:=c) hb (fun e=>?_) (fun e=>?_)⟩
   ·subst e;exact(qed T nt lo x a k _ res Q hQ hk g).out
   ·subst e;exact(qed T nt lo y b k _ res Q hQ hk g).out
  cases v with
  |bool c=>
   cases a with
   |o=>exact key .o .o c rfl h
   |cond a b=>exact key a b c rfl h
   |_=>cases h
  |_=>cases a<;>cases h
 |.cond (.global _) x y,a,ρ,k,s,res,Q,hQ,hk,h=>by cases a<;>cases h
 |.cond (.func _) x y,a,ρ,k,s,res,Q,hQ,hk,h=>by cases a<;>cases h
 |.rangeFunc _ _ _ _,a,ρ,k,s,res,Q,hQ,hk,h=>by cases a<;>cases h
 |.scope _,a,ρ,k,s,res,Q,hQ,hk,h=>by cases a<;>cases h
 |.label _,a,ρ,k,s,res,Q,hQ,hk,h=>by cases a<;>cases h
 |.goto _,a,ρ,k,s,res,Q,hQ,hk,h=>by cases a<;>cases h
 |.refuse _,a,ρ,k,s,res,Q,hQ,hk,h=>by cases a<;>cases h
end
end
end Go.Abs
namespace Go.Abs
open Go
noncomputable section
variable {P:Program} {ρ:Type}
section
variable [SU] [qa3] [qyl] [FFs]
def zfw(P:Program)[Tys P](s:ESt):ResultVar->(EV->Option ρ)->Option ρ
 |.tmp t,K=>fE (s.env t) K
 |.cell ad t,K=>qpw (P:=P) s.heap t (s.env ad) K
def q8t(P:Program)[Tys P](s:ESt):List ResultVar->(List EV->Option ρ)->Option ρ
 |[],K=>K []
 |r::l,K=>zfw P s r fun u=>q8t P s l fun us=>K (u::us)
theorem q8u[Tys P]{s:ESt}{rv:ResultVar}{K:EV->Option ρ}{res:ρ}(h:zfw P s rv K=some res):∃u,RV P (qbf s) rv (toV s.heap.len u)/\K u=some res:=by
 cases rv with
 |tmp t=>
  simp only[zfw,qke]at h;exact⟨_,RV.tmp t,h⟩
 |cell ad t=>
  obtain⟨u,h1,h2⟩:=qol (a:=.tmp ad) h;refine⟨u,fun E M F a w r=>?_,h2⟩;obtain⟨v,h3,h4⟩:=h1 none t E M F a w r;refine⟨v,?_,h4⟩;have e:a.eval (.tmp ad)=a.tmps.getD ad undef:=rfl;simp only[execOp,GOp.oper,e,Instr.loadAt]at h3;simp only[qz6];generalize a.tmps.getD ad undef=x at h3 ⊢;have bad:∀m:String,((Instr.sureAddr x >>= loadVar t) >>= fun y=>(Pure.pure (Next.value y):Sem Next)).run P w=.ok (.value v) w->(Instr.sureAddr x=stuck m)->False:=fun m h e=>by
   rw[e]at h;simp[Sem.run_bind,stuck]at h
  cases x with
  |pointer o=>
   cases o with
   |none=>exact(bad _ h3 rfl).elim
   |some ad'=>
    simp only[Instr.sureAddr,asAddr,Sem.run_bind,Sem.run_pure,Result.andThen_ok]at h3 ⊢;cases hl:(loadVar t ad').run P w with
    |ok c w'=>
     rw[hl]at h3;simp only[Result.andThen_ok]at h3;injection h3 with h5 h6;injection h5 with h5;subst h5;subst h6;rfl
    |halt x w'=>rw[hl]at h3;cases h3
  |_=>exact(bad _ h3 rfl).elim
theorem qva[Tys P]{s:ESt}:∀ {l:List ResultVar} {K:List EV->Option ρ} {res:ρ},q8t P s l K=some res->∃us,K us=some res/\∀E M F a w,Rel E M F (qbf s) a w->∃cs:List Value,(l.mapM (qz6 a.tmps)).run P w=.ok cs w/\cs.length=us.length/\∀j,j<us.length->∃c,cs[j]?=some c/\qa0 (toH s.heap) M F w (toV s.heap.len (qdj us j)) c
 |[],K,res,h=>⟨[],h,fun E M F a w r=>⟨[],rfl,rfl,fun j hj=>absurd hj (zjj _)⟩⟩
 |rv::l,K,res,h=>by
  obtain⟨u,h1,h⟩:=q8u h;obtain⟨us,h,h2⟩:=qva (l:=l) h;refine⟨u::us,h,fun E M F a w r=>?_⟩;obtain⟨c,c1,c2⟩:=h1 E M F a w r;obtain⟨cs,c3,c4,c5⟩:=h2 E M F a w r;refine⟨c::cs,by simp[List.mapM_cons,c1,c3],by simp[c4],fun j hj=>?_⟩;cases j with
  |zero=>exact⟨c,rfl,c2⟩
  |succ j=>obtain⟨c',d1,d2⟩:=c5 j (by simpa using hj);exact⟨c',by simpa using d1,d2⟩
def zfi:List EV->EV
 |[u]=>u
 |l=>.tup l
def zb5:Sh->EV->List Nat
 |.fz _,.qa7 k []=>[k]
 |.st _,.agg m=>qp1 (.agg m)
 |.agg l,.agg m=>qyz l m
 |.tup l,.tup m=>qyz l m
 |_,_=>[]
where qyz:List Sh->List EV->List Nat
 |a::l,u::m=>zb5 a u++qyz l m
 |_,_=>[]
def zh8(s:ESt)(u:EV):ESt:=⟨1,qdj [u],s.heap⟩
def zgp(P:Program)[Tys P](rs:List ResultVar)(lo:Nat)(rv:Sh)(ro:List OSh)(s:ESt):Option (rv.D×DO ro):=
 q8t P s rs fun us=>qic (zh8 s (zfi us)) (fun s'=>qn5 1 lo s' ⟨[(0,rv)],ro⟩ (fun z=>some (z.1.1,z.2))) (zb5 rv (zfi us))
def zir(P:Program)[Tys P](rs:List ResultVar)(lo:Nat)(rv:Sh)(ro:List OSh):Exit->ESt->Option (rv.D×DO ro)
 |.ret,s=>zgp P rs lo rv ro s
 |.normal,s=>zgp P rs lo rv ro s
 |_,_=>none
structure qu7(P:Program)(fn:Func)(lo:Nat)(rv:Sh)(ro:List OSh)(res:rv.D×DO ro)(s:ESt):Prop where
 out:∀E M F a w,Rel E M F (qbf s) a w->∃c ι' F',(results fn a.tmps).run P w=.ok c w/\qde E ι' F' (toH (mkH lo ro res.2)) w/\qa0 (toH (mkH lo ro res.2)) ι' F' w (toV (mkH lo ro res.2).len (mkE rv res.1)) c
theorem qu7.weak{fn:Func}{lo:Nat}{rv:Sh}{ro:List OSh}{res:rv.D×DO ro}{s s':ESt}(w:qbz s s')(h:qu7 P fn lo rv ro res s'):qu7 P fn lo rv ro res s:=
 ⟨fun E M F a w' r=>by obtain⟨ι',F',r'⟩:=w E M F a w' r;exact h.out E ι' F' a w' r'⟩
theorem q0n[Tys P]{fn:Func}{lo:Nat}{rv:Sh}{ro:List OSh}{res:rv.D×DO ro}{s:ESt}(h:zgp P fn.results.toList lo rv ro s=some res):qu7 P fn lo rv ro res s:=by
 obtain⟨us,h,hu⟩:=qva h;obtain⟨s',w,h⟩:=qdu _ _ h;obtain⟨z,w2,h⟩:=qe0 h;injection h with h;subst h;refine⟨fun E M F a w' r=>?_⟩;obtain⟨cs,c1,c2,c3⟩:=hu E M F a w' r;have hc:∃c,(results fn a.tmps).run P w'=.ok c w'/\qa0 (toH s.heap) M F w' (toV s.heap.len (zfi us)) c:=by
  rw[qxp];have e:(fn.results.mapM (qz6 a.tmps)).run P w'=.ok cs.toArray w':=by
   rw[Array.mapM_eq_mapM_toList,Sem.run_map,c1];rfl
  rw[Sem.run_bind,e];simp only[Result.andThen_ok];have tupR:∀us:List EV,us.length≠1->cs.length=us.length->(∀j,j<us.length->∃c,cs[j]?=some c/\qa0 (toH s.heap) M F w' (toV s.heap.len (qdj us j)) c) ->
    ∃c,(Pure.pure (if h:cs.toArray.size=1 then cs.toArray[0]else .tuple cs.toArray):Sem Value).run P w'=.ok c w'/\qa0 (toH s.heap) M F w' (toV s.heap.len (.tup us)) c:=fun us h1 h2 h3=>by
   rw[dif_neg (by simpa[h2]using h1)];refine⟨_,rfl,?_⟩;simp only[toV];exact⟨cs.toArray,rfl,by simpa using h2,fun j hj=>by obtain⟨c,q1,q2⟩:=h3 j hj;exact⟨c,by simpa using q1,by rw[<- qez];exact q2⟩⟩
  match us,c2,c3 with
  |[],c2,c3=>exact tupR [] (by simp) c2 c3
  |[u],c2,c3=>
   obtain⟨c,q1,q2⟩:=c3 0 (by simp);refine⟨c,?_,q2⟩;have:cs=[c]:=by
    match cs,c2,q1 with
    |[x],_,q1=>simpa using q1
   subst this;rfl
  |u::v::l,c2,c3=>exact tupR _ (by simp) c2 c3
 obtain⟨c,k1,k2⟩:=hc;have r1:Rel E M F (qbf (zh8 s (zfi us))) { tmps:=#[c],defers:=[] } w':=⟨r.h,fun t=>by
  cases t with
  |zero=>exact k2
  | succ t=>exact trivial,rfl,rfl⟩
 obtain⟨ι1,F1,r2⟩:=w _ _ _ _ _ r1;obtain⟨ι2,F2,r3⟩:=w2 _ _ _ _ _ r2;exact⟨c,ι2,F2,k1,r3.h,r3.env 0⟩
noncomputable def qdd(T:List (Ctr P))[Tys P][TyE P][TyX P](fn:Func)(a:Ann)(ar:List (Nat×Sh))(os:List OSh)(rv:Sh)(ro:List OSh)(x:DT ar)(y:DO os):Option (rv.D×DO ro):=
 bif Nat.ble ar.length fn.ntmps then(match fn.body with
  |some c=>qif T fn.ntmps os.length a c (zir P fn.results.toList os.length rv ro) ⟨fn.ntmps,qdj (qdf ar x),mkH os.length os y⟩
  | none=>none)else none
theorem CT.of{T:List (Ctr P)}[Tys P][TyE P][TyX P][qu6 P]{f:FuncId}{fn:Func}{a:Ann}{ar:List (Nat×Sh)}{os:List OSh}{rv:Sh}{ro:List OSh}{x:DT ar}{y:DO os}{r:rv.D×DO ro}(hf:P.funcs[f]?=some fn)
  (h:qdd T fn a ar os rv ro x y=some r):CT P f (qdf ar x) (mkH os.length os y) (fun v H'=>v=mkE rv r.1/\H'=mkH os.length ro r.2):=by
 unfold qdd at h;have hh:=qah h;clear h;obtain⟨hle,h⟩:=hh;have hle:=zi8 hle;split at h
 ·rename_i c hb;have hs:=(qed T fn.ntmps os.length c a _ _ r (fun e s=>(e=.ret\/e=.normal)/\qu7 P fn os.length rv ro r s) (fun e s s' w q=>⟨q.1,q.2.weak w⟩) (fun e s' q=>by
   cases e<;>first|exact⟨.inl rfl,q0n q⟩|exact⟨.inr rfl,q0n q⟩|cases q) h).out
  refine⟨fun E M F w cargs r0 hl ha=>calls_of_wp hf hb ?_⟩;have r1:Rel E M F (qbf ⟨fn.ntmps,qdj (qdf ar x),mkH os.length os y⟩) { tmps:=cargs++Array.replicate (fn.ntmps-cargs.size) undef,defers:=[] } w:=by
   have hl':(qdf ar x).length=ar.length:=qda _ _;refine⟨r0,fun t=>?_,?_,rfl⟩
   ·show qa0 _ M F w (toV _ (qdj (qdf ar x) t)) ((cargs++Array.replicate (fn.ntmps-cargs.size) undef).getD t undef);by_cases ht:t<(qdf ar x).length
    ·have e:(cargs++Array.replicate (fn.ntmps-cargs.size) undef).getD t undef=cargs.getD t undef:=by
      rw[zjr,zlb (by omega),zjr]
     rw[e];exact ha t ht
    ·have:∀(l:List EV) (t:Nat),l.length<=t->qdj l t=.un:=by
      intro l
      induction l with
      |nil=>intro t _;rfl
      |cons a l ih=>intro t ht;cases t with
       |zero=>simp at ht
       |succ t=>exact ih t (by simpa using ht)
     rw[this _ _ (zj9 ht)];simp only[toV];exact trivial
   ·show(cargs++Array.replicate (fn.ntmps-cargs.size) undef).size=fn.ntmps;simp;omega
  have fin:∀e a w',(e=.ret\/e=.normal)->qjv E (qe9 (fun e s=>(e=.ret\/e=.normal)/\qu7 P fn os.length rv ro r s)) e a w'->∃st:St,a.defers=[]/\∃c,(results fn a.tmps).run P w'=.ok c w'/\∃ι' F',qde E ι' F' (toH (mkH os.length ro r.2)) w'/\qa0 (toH (mkH os.length ro r.2)) ι' F' w' (toV (mkH os.length ro r.2).len (mkE rv r.1)) c:=fun e a w' he hc=>by
   have:∃M F st,Rel E M F st a w'/\qe9 (fun e s=>(e=.ret\/e=.normal)/\qu7 P fn os.length rv ro r s) e st:=by
    rcases he with rfl|rfl<;>exact hc
   obtain⟨M,F,st,rr,s,rfl,_,ho⟩:=this;obtain⟨c,ι',F',k1,k2,k3⟩:=ho.out E M F a w' rr;exact⟨qbf s,rr.defers,c,k1,ι',F',k2,k3⟩
  refine wp_mono (hs.out E M F _ w r1) fun e a w' hc=>?_;cases e with
  |ret=>
   obtain⟨_,d,c,k1,ι',F',k2,k3⟩:=fin _ _ _ (.inl rfl) hc;exact⟨d,c,k1,mkE rv r.1,ι',F',mkH os.length ro r.2,c,rfl,k2,k3,rfl,rfl⟩
  |normal=>
   obtain⟨_,d,c,k1,ι',F',k2,k3⟩:=fin _ _ _ (.inr rfl) hc;exact⟨d,c,k1,mkE rv r.1,ι',F',mkH os.length ro r.2,c,rfl,k2,k3,rfl,rfl⟩
  |exit id=>obtain⟨M,F,st,r,s,rfl,h,_⟩:=hc;rcases h with h|h<;>cases h
  |goto l=>obtain⟨M,F,st,r,s,rfl,h,_⟩:=hc;rcases h with h|h<;>cases h
  |panic c=>exact hc.elim
  |outgrown=>exact hc.elim
 ·cases h
end
end
end Go.Abs
namespace Go.Abs
open Go
noncomputable section
section
variable [SU] [qa3] [qyl] [FFs] {P:Program}
def qbl[Tys P][TyE P][TyX P][qu6 P](f:FuncId)[k:qc3 P f](fn:Func)(hf:P.funcs[f]?=some fn)(T:List (Ctr P))(a:Ann)(ar:List (Nat×Sh))(os:List OSh)(rv:Sh)(ro:List OSh)
  (F:DT ar->DO os->Option (rv.D×DO ro)) (h:∀x y r,F x y=some r->qdd T fn a ar os rv ro x y=some r):Ctr P:=
 ⟨f,k,ar,os,rv,ro,F,fun x y r e=>CT.of hf (h x y r e)⟩
end
section
variable {ρ α:Type}
theorem q11{b:Bool}{x:Option ρ}(h:b=true):grd b x=x:=by rw[h];rfl
@[simp] theorem qba{x:Option ρ}:grd true x=x:=rfl
theorem qin{p:Prop}{x:Option ρ}(h:p):grd (okB p) x=x:=q11 (qkp h)
theorem qds{a b:Nat}{x:Option ρ}(h:a<b):grd (Nat.blt a b) x=x:=q11 (by simpa using h)
@[simp] theorem qaf{y:α}{K:α->Option ρ}:qaj (some y) K=K y:=rfl
@[simp] theorem qs4{b:Bool}{x:Option α}{K:α->Option ρ}:qaj (grd b x) K=grd b (qaj x K):=by cases b<;>rfl
@[simp] theorem qcp{f:α->Option ρ}{g:(α->Option ρ)->Option ρ}:jpO f g=g f:=rfl
@[simp] theorem qb8{p:Prop}[Decidable p]{β:Type}{x y:β}:(bif decide p then x else y)=if p then x else y:=by by_cases h:p<;>simp[h]
theorem qq6{b:Bool}{β:Type}{x y:β}:(bif !b then x else y)=bif b then y else x:=by cases b<;>rfl
theorem qgm{β:Type}{by_:Nat}{ok:β->Prop}{l:List β}(h:All by_ ok l)(d:β){i:Nat}(hi:i<l.length):ok (l.getD i d):=by
 have:=h.2 l[i] (zj1 hi);simpa[zi5,hi]using this
theorem qa5{x:Option α}{y:α}{K:α->Option ρ}{r:Option ρ}(h:x=some y)(k:K y=r):qaj x K=r:=by rw[h];exact k
section
variable {D X:Type} {f:D->Option (D⊕X)} {st:Nat->D}
theorem qod{X0:X}{y0:D}(hy:y0=st 0)(n:Nat)(G:Nat->Prop)(h0:G 0)(hs:∀i,i<n->G i->(f (st i)=some (.inl (st (i+1)))/\G (i+1))\/f (st i)=some (.inr X0))(he:G n->f (st n)=some (.inr X0)):qap f y0=some X0:=by
 subst hy;have key:∀k i,i+k=n->G i->qap f (st i)=some X0:=by
  intro k
  induction k with
  |zero=>intro i hi hg;rw[qbt,show i=n by omega,he (by rw[show n=i by omega];exact hg)]
  |succ k ih=>
   intro i hi hg;rw[qbt];rcases hs i (by omega) hg with⟨h1,h2⟩|h1
   ·rw[h1];exact ih (i+1) (by omega) h2
   ·rw[h1]
 exact key n 0 (by omega) h0
theorem qa6{β:Type}{l:List β}{y0:D}(hy:y0=st 0)(z:β)(p:β->Bool){A B:X}(h1:∀i,i<l.length->p (l.getD i z)=true->f (st i)=some (.inl (st (i+1))))(h2:∀i,i<l.length->p (l.getD i z)=false->f (st i)=some (.inr B))
  (h3:l.all p=true->f (st l.length)=some (.inr A)):qap f y0=some (if l.all p then A else B):=by
 refine qod hy l.length (fun i=>∀j,j<i->p (l.getD j z)=true) (fun j hj=>absurd hj (zjj _)) (fun i hi hg=>?_) (fun hg=>?_)
 ·cases hp:p (l.getD i z)with
  |true=>
   refine .inl ⟨h1 i hi hp,fun j hj=>?_⟩;by_cases e:j=i
   ·rw[e];exact hp
   ·exact hg j (by omega)
  |false=>
   right
   have:l.all p=false:=by
    rw[List.all_eq_false];refine⟨l[i],zj1 hi,?_⟩;have e:l.getD i z=l[i]:=by simp[zi5,hi]
    rw[<- e,hp];simp
   rw[this];exact h2 i hi hp
 ·have:l.all p=true:=by
   rw[zjm];intro x hx;obtain⟨i,hi,rfl⟩:=zky hx;have e:l.getD i z=l[i]:=by simp[zi5,hi]
   rw[<- e];exact hg i hi
  rw[h3 this,this];rfl
theorem qcj{X0:X}{y0:D}(hy:y0=st 0)(n:Nat)(h1:∀i,i<n->f (st i)=some (.inl (st (i+1))))(h2:f (st n)=some (.inr X0)):qap f y0=some X0:=
 qod hy n (fun _=>True) trivial (fun i hi _=>.inl ⟨h1 i hi,trivial⟩) (fun _=>h2)
end
theorem qak{p:Prop}{x:Option ρ}(h:p):grd (okB p) x=x:=q11 (qkp h)
theorem FE{run go:Option ρ}{s r:ρ}(hr:run=go)(ok:go=some s)(h:some s=some r):run=some r:=by rw[hr,ok,h]
theorem FO{p:Prop}{run go:Option ρ}{s r:ρ}(hr:run=go)(ok:p->go=some s)(h:grd (okB p) (some s)=some r):run=some r:=by
 cases hb:okB p with
 |false=>rw[hb]at h;cases h
 |true=>
  rw[hb]at h;rw[hr,ok (qdo hb)];exact h
theorem qcl:LEN=281474976710656:=rfl
@[simp] theorem qdb{A B:Type}{f:A->Option ρ}{g:B->Option ρ}{a:A}:qgu f g (.inl a)=f a:=rfl
@[simp] theorem qfc{A B:Type}{f:A->Option ρ}{g:B->Option ρ}{b:B}:qgu f g (.inr b)=g b:=rfl
end
end
noncomputable section
theorem gsA:type_of% (And.intro @qin (And.intro @qds (And.intro @qba (And.intro @qcp (And.intro @ql3 (And.intro @qaf (And.intro @qs4 (And.intro @qb8 (And.intro @qdb (And.intro @qfc (And.intro @if_pos.{1} (And.intro @if_neg.{1} (And.intro @cond_true.{1} (And.intro @cond_false.{1} (And.intro @qq6 (And.intro @if_true.{1} @if_false.{1})))))))))))))))):=And.intro @qin (And.intro @qds (And.intro @qba (And.intro @qcp (And.intro @ql3 (And.intro @qaf (And.intro @qs4 (And.intro @qb8 (And.intro @qdb (And.intro @qfc (And.intro @if_pos.{1} (And.intro @if_neg.{1} (And.intro @cond_true.{1} (And.intro @cond_false.{1} (And.intro @qq6 (And.intro @if_true.{1} @if_false.{1})))))))))))))))
theorem gsB:type_of% (And.intro @zja (And.intro @zju (And.intro @zj4 (And.intro @decide_true (And.intro @decide_false (And.intro @zjw (And.intro @Int.natCast_add (And.intro @Int.cast_ofNat_Int (And.intro @zjo (And.intro @decide_eq_false_iff_not (And.intro @not_true_eq_false @not_false_eq_true))))))))))):=And.intro @zja (And.intro @zju (And.intro @zj4 (And.intro @decide_true (And.intro @decide_false (And.intro @zjw (And.intro @Int.natCast_add (And.intro @Int.cast_ofNat_Int (And.intro @zjo (And.intro @decide_eq_false_iff_not (And.intro @not_true_eq_false @not_false_eq_true))))))))))
end
end Go.Abs
namespace Go.Abs
open Go Go.Proofs
def zhz:TyC:={ agg:=false,sz:=1,desc:=some (.int .i64),zero:=some (.int .i64 0) }
theorem q83:TyC.Ok Try.prog 2 zhz:=⟨(fun h=>inferInstance),(fun f off a s h=>by cases h),(fun e s b h=>by cases h),(fun x h=>by cases h;infer_instance),(fun v h=>by cases h;infer_instance)⟩
def zhy:TyC:={ agg:=false,sz:=1,desc:=some (.int .i64),zero:=some (.int .i64 0) }
theorem q82:TyC.Ok Try.prog 3 zhy:=⟨(fun h=>inferInstance),(fun f off a s h=>by cases h),(fun e s b h=>by cases h),(fun x h=>by cases h;infer_instance),(fun v h=>by cases h;infer_instance)⟩
def zhx:TyC:={ agg:=false,sz:=1,desc:=some .bool,zero:=some (.bool false) }
theorem q81:TyC.Ok Try.prog 4 zhx:=⟨(fun h=>inferInstance),(fun f off a s h=>by cases h),(fun e s b h=>by cases h),(fun x h=>by cases h;infer_instance),(fun v h=>by cases h;infer_instance)⟩
def zhw:TyC:={ agg:=false,sz:=1,desc:=some (.int .u8),zero:=some (.int .u8 0) }
theorem q80:TyC.Ok Try.prog 5 zhw:=⟨(fun h=>inferInstance),(fun f off a s h=>by cases h),(fun e s b h=>by cases h),(fun x h=>by cases h;infer_instance),(fun v h=>by cases h;infer_instance)⟩
def zhv:TyC:={ agg:=false,sz:=1,desc:=some .string,zero:=some (.string ByteArray.empty) }
theorem q8z:TyC.Ok Try.prog 9 zhv:=⟨(fun h=>inferInstance),(fun f off a s h=>by cases h),(fun e s b h=>by cases h),(fun x h=>by cases h;infer_instance),(fun v h=>by cases h;infer_instance)⟩
def zdd:TyC:={ agg:=false,sz:=1,zero:=some (.nilFunc) }
theorem q41:TyC.Ok Try.prog 23 zdd:=⟨(fun h=>inferInstance),(fun f off a s h=>by cases h),(fun e s b h=>by cases h),(fun x h=>by cases h),(fun v h=>by cases h;infer_instance)⟩
def zdc:TyC:={ agg:=false,sz:=1,zero:=some (.nilFunc) }
theorem q40:TyC.Ok Try.prog 24 zdc:=⟨(fun h=>inferInstance),(fun f off a s h=>by cases h),(fun e s b h=>by cases h),(fun x h=>by cases h),(fun v h=>by cases h;infer_instance)⟩
def zdb:TyC:={ agg:=false,sz:=1,sl:=some (3,1,8),zero:=some (.slice none 0 0) }
theorem q4z:TyC.Ok Try.prog 25 zdb:=⟨(fun h=>inferInstance),(fun f off a s h=>by cases h),(fun e s b h=>by cases h;infer_instance),(fun x h=>by cases h),(fun v h=>by cases h;infer_instance)⟩
def zda:TyC:={ agg:=false,sz:=1,sl:=some (53,5,48),zero:=some (.slice none 0 0) }
theorem q4y:TyC.Ok Try.prog 26 zda:=⟨(fun h=>inferInstance),(fun f off a s h=>by cases h),(fun e s b h=>by cases h;infer_instance),(fun x h=>by cases h),(fun v h=>by cases h;infer_instance)⟩
def zc9:TyC:={ agg:=false,sz:=1,sl:=some (55,3,32),zero:=some (.slice none 0 0) }
theorem q4x:TyC.Ok Try.prog 27 zc9:=⟨(fun h=>inferInstance),(fun f off a s h=>by cases h),(fun e s b h=>by cases h;infer_instance),(fun x h=>by cases h),(fun v h=>by cases h;infer_instance)⟩
def zc8:TyC:={ agg:=false,sz:=1,sl:=some (41,9,136),zero:=some (.slice none 0 0) }
theorem q4w:TyC.Ok Try.prog 28 zc8:=⟨(fun h=>inferInstance),(fun f off a s h=>by cases h),(fun e s b h=>by cases h;infer_instance),(fun x h=>by cases h),(fun v h=>by cases h;infer_instance)⟩
def zc7:TyC:={ agg:=true,sz:=6,fields:=[(0,false,1),(1,false,1),(2,false,1),(3,false,1),(4,false,1),(5,false,1)],zero:=some (.agg #[.string ByteArray.empty,.slice none 0 0,.slice none 0 0,.slice none 0 0,.slice none 0 0,.slice none 0 0]) }
theorem q4v:TyC.Ok Try.prog 30 zc7:=⟨(fun h=>inferInstance),(qji ⟨(inferInstance:qaq Try.prog 30 0 0 false 1),(inferInstance:qaq Try.prog 30 1 1 false 1),(inferInstance:qaq Try.prog 30 2 2 false 1),(inferInstance:qaq Try.prog 30 3 3 false 1),(inferInstance:qaq Try.prog 30 4 4 false 1),(inferInstance:qaq Try.prog 30 5 5 false 1),trivial⟩),(fun e s b h=>by cases h),(fun x h=>by cases h),(fun v h=>by cases h;infer_instance)⟩
def zc6:TyC:={ agg:=false,sz:=1,sl:=some (46,5,56),zero:=some (.slice none 0 0) }
theorem q4u:TyC.Ok Try.prog 36 zc6:=⟨(fun h=>inferInstance),(fun f off a s h=>by cases h),(fun e s b h=>by cases h;infer_instance),(fun x h=>by cases h),(fun v h=>by cases h;infer_instance)⟩
def zc5:TyC:={ agg:=false,sz:=1,sl:=some (51,2,32),zero:=some (.slice none 0 0) }
theorem q4t:TyC.Ok Try.prog 37 zc5:=⟨(fun h=>inferInstance),(fun f off a s h=>by cases h),(fun e s b h=>by cases h;infer_instance),(fun x h=>by cases h),(fun v h=>by cases h;infer_instance)⟩
def zc4:TyC:={ agg:=true,sz:=4,fields:=[(0,false,1),(1,false,1),(2,false,1),(3,false,1)],zero:=some (.agg #[.int .i64 0,.int .i64 0,.slice none 0 0,.slice none 0 0]) }
theorem q4s:TyC.Ok Try.prog 39 zc4:=⟨(fun h=>inferInstance),(qji ⟨(inferInstance:qaq Try.prog 39 0 0 false 1),(inferInstance:qaq Try.prog 39 1 1 false 1),(inferInstance:qaq Try.prog 39 2 2 false 1),(inferInstance:qaq Try.prog 39 3 3 false 1),trivial⟩),(fun e s b h=>by cases h),(fun x h=>by cases h),(fun v h=>by cases h;infer_instance)⟩
def zc3:TyC:={ agg:=true,sz:=9,fields:=[(0,false,1),(1,false,1),(2,true,4),(6,false,1),(7,false,1),(8,false,1)],zero:=some (.agg #[.slice none 0 0,.slice none 0 0,.int .i64 0,.int .i64 0,.slice none 0 0,.slice none 0 0,.int .i64 0,.int .i64 0,.int .i64 0]) }
theorem q4r:TyC.Ok Try.prog 41 zc3:=⟨(fun h=>inferInstance),(qji ⟨(inferInstance:qaq Try.prog 41 0 0 false 1),(inferInstance:qaq Try.prog 41 1 1 false 1),(inferInstance:qaq Try.prog 41 2 2 true 4),(inferInstance:qaq Try.prog 41 3 6 false 1),(inferInstance:qaq Try.prog 41 4 7 false 1),(inferInstance:qaq Try.prog 41 5 8 false 1),trivial⟩),(fun e s b h=>by cases h),(fun x h=>by cases h),(fun v h=>by cases h;infer_instance)⟩
def zc2:TyC:={ agg:=false,sz:=1,desc:=some (.int .u64),zero:=some (.int .u64 0) }
theorem q4q:TyC.Ok Try.prog 44 zc2:=⟨(fun h=>inferInstance),(fun f off a s h=>by cases h),(fun e s b h=>by cases h),(fun x h=>by cases h;infer_instance),(fun v h=>by cases h;infer_instance)⟩
def zc1:TyC:={ agg:=true,sz:=5,fields:=[(0,false,1),(1,false,1),(2,false,1),(3,false,1),(4,false,1)],zero:=some (.agg #[.int .i64 0,.int .i64 0,.slice none 0 0,.int .u64 0,.int .i64 0]) }
theorem q4p:TyC.Ok Try.prog 46 zc1:=⟨(fun h=>inferInstance),(qji ⟨(inferInstance:qaq Try.prog 46 0 0 false 1),(inferInstance:qaq Try.prog 46 1 1 false 1),(inferInstance:qaq Try.prog 46 2 2 false 1),(inferInstance:qaq Try.prog 46 3 3 false 1),(inferInstance:qaq Try.prog 46 4 4 false 1),trivial⟩),(fun e s b h=>by cases h),(fun x h=>by cases h),(fun v h=>by cases h;infer_instance)⟩
def zc0:TyC:={ agg:=true,sz:=2,fields:=[(0,false,1),(1,false,1)],zero:=some (.agg #[.int .i64 0,.slice none 0 0]) }
theorem q4o:TyC.Ok Try.prog 51 zc0:=⟨(fun h=>inferInstance),(qji ⟨(inferInstance:qaq Try.prog 51 0 0 false 1),(inferInstance:qaq Try.prog 51 1 1 false 1),trivial⟩),(fun e s b h=>by cases h),(fun x h=>by cases h),(fun v h=>by cases h;infer_instance)⟩
def zcz:TyC:={ agg:=true,sz:=5,fields:=[(0,false,1),(1,false,1),(2,false,1),(3,false,1),(4,false,1)],zero:=some (.agg #[.string ByteArray.empty,.int .i64 0,.int .i64 0,.int .i64 0,.int .i64 0]) }
theorem q4n:TyC.Ok Try.prog 53 zcz:=⟨(fun h=>inferInstance),(qji ⟨(inferInstance:qaq Try.prog 53 0 0 false 1),(inferInstance:qaq Try.prog 53 1 1 false 1),(inferInstance:qaq Try.prog 53 2 2 false 1),(inferInstance:qaq Try.prog 53 3 3 false 1),(inferInstance:qaq Try.prog 53 4 4 false 1),trivial⟩),(fun e s b h=>by cases h),(fun x h=>by cases h),(fun v h=>by cases h;infer_instance)⟩
def zcy:TyC:={ agg:=true,sz:=3,fields:=[(0,false,1),(1,false,1),(2,false,1)],zero:=some (.agg #[.string ByteArray.empty,.int .i64 0,.bool false]) }
theorem q4m:TyC.Ok Try.prog 55 zcy:=⟨(fun h=>inferInstance),(qji ⟨(inferInstance:qaq Try.prog 55 0 0 false 1),(inferInstance:qaq Try.prog 55 1 1 false 1),(inferInstance:qaq Try.prog 55 2 2 false 1),trivial⟩),(fun e s b h=>by cases h),(fun x h=>by cases h),(fun v h=>by cases h;infer_instance)⟩
def zcx:TyC:={ agg:=true,sz:=2,fields:=[(0,false,1),(1,false,1)],zero:=some (.agg #[.int .i64 0,.bool false]) }
theorem q4l:TyC.Ok Try.prog 57 zcx:=⟨(fun h=>inferInstance),(qji ⟨(inferInstance:qaq Try.prog 57 0 0 false 1),(inferInstance:qaq Try.prog 57 1 1 false 1),trivial⟩),(fun e s b h=>by cases h),(fun x h=>by cases h),(fun v h=>by cases h;infer_instance)⟩
def zcw:TyC:={ agg:=true,sz:=4,zero:=some (.agg #[.int .i64 0,.bool false,.int .i64 0,.bool false]) }
theorem q4k:TyC.Ok Try.prog 58 zcw:=⟨(fun h=>inferInstance),(fun f off a s h=>by cases h),(fun e s b h=>by cases h),(fun x h=>by cases h),(fun v h=>by cases h;infer_instance)⟩
def zcv:TyC:={ agg:=true,sz:=2,zero:=some (.agg #[.int .u64 0,.int .u64 0]) }
theorem q4j:TyC.Ok Try.prog 59 zcv:=⟨(fun h=>inferInstance),(fun f off a s h=>by cases h),(fun e s b h=>by cases h),(fun x h=>by cases h),(fun v h=>by cases h;infer_instance)⟩
def zcu:TyC:={ agg:=true,sz:=2,zero:=some (.agg #[.int .u8 0,.int .u8 0]) }
theorem q4i:TyC.Ok Try.prog 64 zcu:=⟨(fun h=>inferInstance),(fun f off a s h=>by cases h),(fun e s b h=>by cases h),(fun x h=>by cases h),(fun v h=>by cases h;infer_instance)⟩
def zct:TyC:={ agg:=false,sz:=1,sl:=some (25,1,24),zero:=some (.slice none 0 0) }
theorem q4h:TyC.Ok Try.prog 67 zct:=⟨(fun h=>inferInstance),(fun f off a s h=>by cases h),(fun e s b h=>by cases h;infer_instance),(fun x h=>by cases h),(fun v h=>by cases h;infer_instance)⟩
def zcs:TyC:={ agg:=false,sz:=1,sl:=some (4,1,1),zero:=some (.slice none 0 0) }
theorem q4g:TyC.Ok Try.prog 69 zcs:=⟨(fun h=>inferInstance),(fun f off a s h=>by cases h),(fun e s b h=>by cases h;infer_instance),(fun x h=>by cases h),(fun v h=>by cases h;infer_instance)⟩
def zcr:TyC:={ agg:=false,sz:=1,zero:=some (.nilFunc) }
theorem q4f:TyC.Ok Try.prog 82 zcr:=⟨(fun h=>inferInstance),(fun f off a s h=>by cases h),(fun e s b h=>by cases h),(fun x h=>by cases h),(fun v h=>by cases h;infer_instance)⟩
def zcq:TyC:={ agg:=false,sz:=1,desc:=some (.map 3 3),zero:=some (.map none) }
theorem q4e:TyC.Ok Try.prog 91 zcq:=⟨(fun h=>inferInstance),(fun f off a s h=>by cases h),(fun e s b h=>by cases h),(fun x h=>by cases h;infer_instance),(fun v h=>by cases h;infer_instance)⟩
def q7p:TyC:={ agg:=false,sz:=1,zero:=some (.pointer none) }
theorem qzm:TyC.Ok Try.prog 105 q7p:=⟨(fun h=>inferInstance),(fun f off a s h=>by cases h),(fun e s b h=>by cases h),(fun x h=>by cases h),(fun v h=>by cases h;infer_instance)⟩
def q7o:TyC:={ agg:=true,sz:=8,fields:=[(0,true,6),(6,false,1),(7,false,1)],zero:=some (.agg #[.string ByteArray.empty,.slice none 0 0,.slice none 0 0,.slice none 0 0,.slice none 0 0,.slice none 0 0,.slice none 0 0,.slice none 0 0]) }
theorem qzl:TyC.Ok Try.prog 107 q7o:=⟨(fun h=>inferInstance),(qji ⟨(inferInstance:qaq Try.prog 107 0 0 true 6),(inferInstance:qaq Try.prog 107 1 6 false 1),(inferInstance:qaq Try.prog 107 2 7 false 1),trivial⟩),(fun e s b h=>by cases h),(fun x h=>by cases h),(fun v h=>by cases h;infer_instance)⟩
def q7n:TyC:={ agg:=false,sz:=1,sl:=some (9,1,16),zero:=some (.slice none 0 0) }
theorem qzk:TyC.Ok Try.prog 113 q7n:=⟨(fun h=>inferInstance),(fun f off a s h=>by cases h),(fun e s b h=>by cases h;infer_instance),(fun x h=>by cases h),(fun v h=>by cases h;infer_instance)⟩
def q7m:TyC:={ agg:=false,sz:=1,zero:=some (.nilFunc) }
theorem qzj:TyC.Ok Try.prog 117 q7m:=⟨(fun h=>inferInstance),(fun f off a s h=>by cases h),(fun e s b h=>by cases h),(fun x h=>by cases h),(fun v h=>by cases h;infer_instance)⟩
def q7l:TyC:={ agg:=false,sz:=1,zero:=some (.nilFunc) }
theorem qzi:TyC.Ok Try.prog 119 q7l:=⟨(fun h=>inferInstance),(fun f off a s h=>by cases h),(fun e s b h=>by cases h),(fun x h=>by cases h),(fun v h=>by cases h;infer_instance)⟩
def q7k:TyC:={ agg:=false,sz:=1,zero:=some (.nilFunc) }
theorem qzh:TyC.Ok Try.prog 120 q7k:=⟨(fun h=>inferInstance),(fun f off a s h=>by cases h),(fun e s b h=>by cases h),(fun x h=>by cases h),(fun v h=>by cases h;infer_instance)⟩
def q7j:TyC:={ agg:=false,sz:=1,sl:=some (5,1,1),zero:=some (.slice none 0 0) }
theorem qzg:TyC.Ok Try.prog 133 q7j:=⟨(fun h=>inferInstance),(fun f off a s h=>by cases h),(fun e s b h=>by cases h;infer_instance),(fun x h=>by cases h),(fun v h=>by cases h;infer_instance)⟩
def q7i:TyC:={ agg:=false,sz:=1,desc:=some (.map 9 4),zero:=some (.map none) }
theorem qzf:TyC.Ok Try.prog 134 q7i:=⟨(fun h=>inferInstance),(fun f off a s h=>by cases h),(fun e s b h=>by cases h),(fun x h=>by cases h;infer_instance),(fun v h=>by cases h;infer_instance)⟩
def q7h:TyC:={ agg:=false,sz:=1,zero:=some (.nilFunc) }
theorem qze:TyC.Ok Try.prog 137 q7h:=⟨(fun h=>inferInstance),(fun f off a s h=>by cases h),(fun e s b h=>by cases h),(fun x h=>by cases h),(fun v h=>by cases h;infer_instance)⟩
def q7g:TyC:={ agg:=false,sz:=1,desc:=some (.int .u64),zero:=some (.int .u64 0) }
theorem qzd:TyC.Ok Try.prog 142 q7g:=⟨(fun h=>inferInstance),(fun f off a s h=>by cases h),(fun e s b h=>by cases h),(fun x h=>by cases h;infer_instance),(fun v h=>by cases h;infer_instance)⟩
def q7f:TyC:={ agg:=true,sz:=3,zero:=some (.agg #[.int .i64 0,.int .i64 0,.int .i64 0]) }
theorem qzc:TyC.Ok Try.prog 144 q7f:=⟨(fun h=>inferInstance),(fun f off a s h=>by cases h),(fun e s b h=>by cases h),(fun x h=>by cases h),(fun v h=>by cases h;infer_instance)⟩
def q7e:TyC:={ agg:=false,sz:=1,desc:=some (.int .i64),zero:=some (.int .i64 0) }
theorem qzb:TyC.Ok Try.prog 148 q7e:=⟨(fun h=>inferInstance),(fun f off a s h=>by cases h),(fun e s b h=>by cases h),(fun x h=>by cases h;infer_instance),(fun v h=>by cases h;infer_instance)⟩
def q7d:TyC:={ agg:=false,sz:=1,desc:=some (.int .u32),zero:=some (.int .u32 0) }
theorem qza:TyC.Ok Try.prog 155 q7d:=⟨(fun h=>inferInstance),(fun f off a s h=>by cases h),(fun e s b h=>by cases h),(fun x h=>by cases h;infer_instance),(fun v h=>by cases h;infer_instance)⟩
def q7c:TyC:={ agg:=false,sz:=1,desc:=some (.int .u64),zero:=some (.int .u64 0) }
theorem qy9:TyC.Ok Try.prog 157 q7c:=⟨(fun h=>inferInstance),(fun f off a s h=>by cases h),(fun e s b h=>by cases h),(fun x h=>by cases h;infer_instance),(fun v h=>by cases h;infer_instance)⟩
def q7b:TyC:={ agg:=false,sz:=1,zero:=some (.pointer none) }
theorem qy8:TyC.Ok Try.prog 161 q7b:=⟨(fun h=>inferInstance),(fun f off a s h=>by cases h),(fun e s b h=>by cases h),(fun x h=>by cases h),(fun v h=>by cases h;infer_instance)⟩
def zhu(t:TypeId):TyC:=(bif Nat.blt t 58 then(bif Nat.blt t 30 then(bif Nat.blt t 23 then(bif Nat.blt t 4 then(bif Nat.blt t 3 then(bif Nat.beq t 2 then zhz else {})else(bif Nat.beq t 3 then zhy else {}))else(bif Nat.blt t 5 then(bif Nat.beq t 4 then zhx else {})else(bif Nat.blt t 9 then(bif Nat.beq t 5 then zhw else {})else(bif Nat.beq t 9 then zhv else {}))))else(bif Nat.blt t 26 then(bif Nat.blt t 24 then(bif Nat.beq t 23 then zdd else {})else(bif Nat.blt t 25 then(bif Nat.beq t 24 then zdc else {})else(bif Nat.beq t 25 then zdb else {})))else(bif Nat.blt t 27 then(bif Nat.beq t 26 then zda else {})else(bif Nat.blt t 28 then(bif Nat.beq t 27 then zc9 else {})else(bif Nat.beq t 28 then zc8 else {})))))else(bif Nat.blt t 44 then(bif Nat.blt t 37 then(bif Nat.blt t 36 then(bif Nat.beq t 30 then zc7 else {})else(bif Nat.beq t 36 then zc6 else {}))else(bif Nat.blt t 39 then(bif Nat.beq t 37 then zc5 else {})else(bif Nat.blt t 41 then(bif Nat.beq t 39 then zc4 else {})else(bif Nat.beq t 41 then zc3 else {}))))else(bif Nat.blt t 53 then(bif Nat.blt t 46 then(bif Nat.beq t 44 then zc2 else {})else(bif Nat.blt t 51 then(bif Nat.beq t 46 then zc1 else {})else(bif Nat.beq t 51 then zc0 else {})))else(bif Nat.blt t 55 then(bif Nat.beq t 53 then zcz else {})else(bif Nat.blt t 57 then(bif Nat.beq t 55 then zcy else {})else(bif Nat.beq t 57 then zcx else {}))))))else(bif Nat.blt t 119 then(bif Nat.blt t 82 then(bif Nat.blt t 64 then(bif Nat.blt t 59 then(bif Nat.beq t 58 then zcw else {})else(bif Nat.beq t 59 then zcv else {}))else(bif Nat.blt t 67 then(bif Nat.beq t 64 then zcu else {})else(bif Nat.blt t 69 then(bif Nat.beq t 67 then zct else {})else(bif Nat.beq t 69 then zcs else {}))))else(bif Nat.blt t 107 then(bif Nat.blt t 91 then(bif Nat.beq t 82 then zcr else {})else(bif Nat.blt t 105 then(bif Nat.beq t 91 then zcq else {})else(bif Nat.beq t 105 then q7p else {})))else(bif Nat.blt t 113 then(bif Nat.beq t 107 then q7o else {})else(bif Nat.blt t 117 then(bif Nat.beq t 113 then q7n else {})else(bif Nat.beq t 117 then q7m else {})))))else(bif Nat.blt t 142 then(bif Nat.blt t 133 then(bif Nat.blt t 120 then(bif Nat.beq t 119 then q7l else {})else(bif Nat.beq t 120 then q7k else {}))else(bif Nat.blt t 134 then(bif Nat.beq t 133 then q7j else {})else(bif Nat.blt t 137 then(bif Nat.beq t 134 then q7i else {})else(bif Nat.beq t 137 then q7h else {}))))else(bif Nat.blt t 155 then(bif Nat.blt t 144 then(bif Nat.beq t 142 then q7g else {})else(bif Nat.blt t 148 then(bif Nat.beq t 144 then q7f else {})else(bif Nat.beq t 148 then q7e else {})))else(bif Nat.blt t 157 then(bif Nat.beq t 155 then q7d else {})else(bif Nat.blt t 161 then(bif Nat.beq t 157 then q7c else {})else(bif Nat.beq t 161 then q7b else {})))))))
theorem q8y(t:TypeId):TyC.Ok Try.prog t (zhu t):=(qbp (qbp (qbp (qbp (qbp (qbn q83) (qbn q82)) (qbp (qbn q81) (qbp (qbn q80) (qbn q8z)))) (qbp (qbp (qbn q41) (qbp (qbn q40) (qbn q4z))) (qbp (qbn q4y) (qbp (qbn q4x) (qbn q4w))))) (qbp (qbp (qbp (qbn q4v) (qbn q4u)) (qbp (qbn q4t) (qbp (qbn q4s) (qbn q4r)))) (qbp (qbp (qbn q4q) (qbp (qbn q4p) (qbn q4o))) (qbp (qbn q4n) (qbp (qbn q4m) (qbn q4l)))))) (qbp (qbp (qbp (qbp (qbn q4k) (qbn q4j)) (qbp (qbn q4i) (qbp (qbn q4h) (qbn q4g)))) (qbp (qbp (qbn q4f) (qbp (qbn q4e) (qbn qzm))) (qbp (qbn qzl) (qbp (qbn qzk) (qbn qzj))))) (qbp (qbp (qbp (qbn qzi) (qbn qzh)) (qbp (qbn qzg) (qbp (qbn qzf) (qbn qze)))) (qbp (qbp (qbn qzd) (qbp (qbn qzc) (qbn qzb))) (qbp (qbn qza) (qbp (qbn qy9) (qbn qy8)))))))
instance:Tys Try.prog:=⟨zhu,q8y⟩
instance:qu6 Try.prog:=⟨by kernel_rfl⟩
end Go.Abs
namespace Go.Abs
open Go
structure Typ where
 width:Int
 signed:Bool
deriving DecidableEq
def Typ.z:Typ:=⟨0,false⟩
def Typ.e(x:Typ):Nat->T
 |0=>.int .i64 x.width
 |1=>.bool x.signed
 |_=>.any
def Fn.z:Fn:=⟨ByteArray.empty,[],[],[],[],[]⟩
inductive Ow(α β:Type) where
 |own (l:List α)
 |fz (l:List β)
inductive Gn(α:Type) where
 |own (l:List α)
 |gone
def Sp.gnL{α:Type}:Gn α->Option (List α)
 |.own l=>some l
 |.gone=>none
def Sp.qgx{α β:Type}:Ow α β->Option (List α)
 |.own l=>some l
 |.fz _=>none
inductive Ox(α β:Type) where
 |own (l:List α)
 |fz (l:List β)
 |gone
def Ow.ox{α β:Type}:Ow α β->Ox α β
 |.own l=>.own l
 |.fz l=>.fz l
def Sp.qjt{α β:Type}:Ox α β->Option (List α)
 |.own l=>some l
 |_=>none
def Sp.zbz{α β:Type}:Ox α β->Option (List β)
 |.fz l=>some l
 |_=>none
def Sp.qsp{α β:Type}:Ow α β->Option (List β)
 |.own _=>none
 |.fz l=>some l
structure qai where
 op:Int
 dest:Int
 args:(Ow Int Int)
 num:Int
 mem:Int
def qai.z:qai:=⟨0,0,(.fz []),0,0⟩
structure qam where
 block:Int
 args:(Ow Int Int)
def qam.z:qam:=⟨0,(.fz [])⟩
structure qas where
 kind:Int
 cond:Int
 to:(Ow qam Edge)
 qax:(Ow Int Int)
def qas.z:qas:=⟨0,0,(.fz []),(.fz [])⟩
structure qab where
 params:(Ow Int Int)
 insts:(Ow qai qat)
 term:qas
 qar:Int
 qa9:Int
 line:Int
def qab.z:qab:=⟨(.fz []),(.fz []),qas.z,0,0,0⟩
structure LsI where
 v:(Gn Int)
def LsI.z:LsI:=⟨(.own [])⟩
structure qau where
 kind:Int
 cond:Int
 to:(Ox qam Edge)
 qax:(Ox Int Int)
def qau.z:qau:=⟨0,0,(.fz []),(.fz [])⟩
structure qac where
 params:(Ox Int Int)
 insts:(Ox qai qat)
 term:qau
 qar:Int
 qa9:Int
 line:Int
def qac.z:qac:=⟨(.fz []),(.fz []),qau.z,0,0,0⟩
@[reducible] def suD:Nat->Type
 |0=>qat
 |1=>Edge
 |2=>Term
 |3=>Block
 |4=>Arr
 |5=>qbd
 |6=>Fn
 |7=>Typ
 |8=>qai
 |9=>qam
 |10=>qas
 |11=>qab
 |12=>LsI
 |13=>qau
 |14=>qac
 |_=>Unit
def suZ:(i:Nat)->suD i
 |0=>qat.z
 |1=>Edge.z
 |2=>Term.z
 |3=>Block.z
 |4=>Arr.z
 |5=>qbd.z
 |6=>Fn.z
 |7=>Typ.z
 |8=>qai.z
 |9=>qam.z
 |10=>qas.z
 |11=>qab.z
 |12=>LsI.z
 |13=>qau.z
 |14=>qac.z
 |_+15=>()
def zij:Nat->Nat
 |0=>5
 |1=>2
 |2=>4
 |3=>9
 |4=>5
 |5=>3
 |6=>6
 |7=>2
 |8=>5
 |9=>2
 |10=>4
 |11=>9
 |12=>1
 |13=>4
 |14=>9
 |_=>0
def zgj:(i:Nat)->suD i->Nat->T
 |0,x=>qat.e x
 |1,x=>Edge.e x
 |2,x=>Term.e x
 |3,x=>Block.e x
 |4,x=>Arr.e x
 |5,x=>qbd.e x
 |6,x=>Fn.e x
 |7,x=>Typ.e x
 |_+8,_=>fun _=>.any
instance:SU:=⟨suD,suZ,zij,zgj⟩
theorem qpc:∀(D:Nat->Type) (i:Nat) (x:D i),quq D i i x=some x
 |D,0,x=>rfl
 |D,i+1,x=>qpc (fun n=>D (n+1)) i x
theorem qaz:∀(F:Type->Type) (U:Ty) (x:F U.D),qbq F U U x=some x
 |F,.bool,x=>rfl
 |F,.int k,x=>by cases k<;>rfl
 |F,.str,x=>rfl
 |F,.st i,x=>qpc (fun i=>F (SU.D i)) i x
 |F,.sl e,x=>qaz (fun X=>F (List X)) e x
 |F,.ol t e,x=>by simp only[qbq,zjg,cond_true];exact qaz (fun X=>F (List X)) e x
def qci:(U:Ty)->EV->Option U.D
 |.bool,.b y=>some y
 |.int k,.i k' n=>bif qdy k k' then some n else none
 |.str,.s y=>some y
 |.sl e,.fz e' l=>qbq List e' e l
 |.sl e,.qb7=>some []
 |_,_=>none
def q6s:(U:Ty)->U.D->EV
 |.bool,x=>.b x
 |.int k,x=>.i k x
 |.str,x=>.s x
 |.sl e,l=>.fz e l
 |.st i,x=>.un
 |.ol _ _,x=>.un
theorem qan{U:Ty}{v:EV}{y:U.D}(h:qci U v=some y):∀len,Wk (toV len v) (toV len (q6s U y)):=fun len=>by
 cases U with
 |bool=>cases v<;>simp only[qci]at h<;>first|(cases h;done)|(injection h with h;subst h;exact Wk.refl _)
 |int k=>
  cases v<;>simp only[qci]at h<;>try(cases h;done)
  rename_i k' n;cases hk:qdy k k' with
  |false=>rw[hk]at h;cases h
  |true=>
   have:=qc6 hk;subst this;rw[hk]at h;simp only[cond_true]at h;injection h with h;subst h;exact Wk.refl _
 |str=>cases v<;>simp only[qci]at h<;>first|(cases h;done)|(injection h with h;subst h;exact Wk.refl _)
 |st i=>simp only[q6s,toV];exact Wk.un _
 |ol _ _=>simp only[q6s,toV];exact Wk.un _
 |sl e=>
  cases v<;>simp only[qci]at h<;>try(cases h;done)
  ·obtain⟨rfl,h⟩:=qa2 h;obtain rfl:=eq_of_heq h;exact Wk.refl _
  ·injection h with h;subst h;simp only[q6s,toV,qyq];exact Wk.qb7 _ _
def qat.c(x:qat):Nat->EV
 |0=>.i .i64 (x.op)
 |1=>.i .i64 (x.dest)
 |2=>.fz (.int .i64) (x.args)
 |3=>.i .u64 (x.num)
 |4=>.i .i64 (x.mem)
 |_=>.un
def qat.s(x:qat)(j:Nat)(v:EV):Option qat:=match j with
 |0=>match qci (.int .i64) v with
  |some y=>some { x with op:=y }
  |none=>none
 |1=>match qci (.int .i64) v with
  |some y=>some { x with dest:=y }
  |none=>none
 |2=>match qci (.sl (.int .i64)) v with
  |some y=>some { x with args:=y }
  |none=>none
 |3=>match qci (.int .u64) v with
  |some y=>some { x with num:=y }
  |none=>none
 |4=>match qci (.int .i64) v with
  |some y=>some { x with mem:=y }
  |none=>none
 |_=>none
def qat.m:List EV->Option qat
 |[a0,a1,a2,a3,a4]=>match qci (.int .i64) a0,qci (.int .i64) a1,qci (.sl (.int .i64)) a2,qci (.int .u64) a3,qci (.int .i64) a4 with
  |some y0,some y1,some y2,some y3,some y4=>some ⟨y0,y1,y2,y3,y4⟩
  |_,_,_,_,_=>none
 |_=>none
theorem qat.qis(x:qat)(len:Len):∀j,j<5->toV len (qat.c x j)=.t (qat.e x j)
 |0,_|1,_|2,_|3,_|4,_=>by simp only[qat.c,toV];rfl
 |n+5,h=>absurd h (by omega)
theorem qat.qd4(x:qat):∀j,(qat.c x j).dat=true
 |0|1|2|3|4=>rfl
 |n+5=>rfl
theorem qat.qgv(x:qat)(j:Nat)(v:EV)(y:qat)(h:qat.s x j v=some y):(∀len,Wk (toV len v) (toV len (qat.c y j)))/\∀j',j'≠j->qat.c y j'=qat.c x j':=by
 match j with
 |0=>
  simp only[qat.s]at h;split at h
  ·rename_i a ha;injection h with h;subst h;refine⟨qan ha,fun j' hj=>?_⟩
   match j',hj with
   |0,hj=>exact absurd rfl hj
   |1,hj|2,hj|3,hj|4,hj=>exact rfl
   |n+5,_=>rfl
  ·cases h
 |1=>
  simp only[qat.s]at h;split at h
  ·rename_i a ha;injection h with h;subst h;refine⟨qan ha,fun j' hj=>?_⟩
   match j',hj with
   |0,hj=>exact rfl
   |1,hj=>exact absurd rfl hj
   |2,hj|3,hj|4,hj=>exact rfl
   |n+5,_=>rfl
  ·cases h
 |2=>
  simp only[qat.s]at h;split at h
  ·rename_i a ha;injection h with h;subst h;refine⟨qan ha,fun j' hj=>?_⟩
   match j',hj with
   |0,hj|1,hj=>exact rfl
   |2,hj=>exact absurd rfl hj
   |3,hj|4,hj=>exact rfl
   |n+5,_=>rfl
  ·cases h
 |3=>
  simp only[qat.s]at h;split at h
  ·rename_i a ha;injection h with h;subst h;refine⟨qan ha,fun j' hj=>?_⟩
   match j',hj with
   |0,hj|1,hj|2,hj=>exact rfl
   |3,hj=>exact absurd rfl hj
   |4,hj=>exact rfl
   |n+5,_=>rfl
  ·cases h
 |4=>
  simp only[qat.s]at h;split at h
  ·rename_i a ha;injection h with h;subst h;refine⟨qan ha,fun j' hj=>?_⟩
   match j',hj with
   |0,hj|1,hj|2,hj|3,hj=>exact rfl
   |4,hj=>exact absurd rfl hj
   |n+5,_=>rfl
  ·cases h
 |n+5=>simp[qat.s]at h
theorem qat.qmn(l:List EV)(y:qat)(h:qat.m l=some y):l.length=5/\∀j,j<5->∀len,Wk (qa4 len l j) (toV len (qat.c y j)):=by
 unfold qat.m at h;split at h
 ·split at h
  ·rename_i h0 h1 h2 h3 h4;injection h with h;subst h;refine⟨rfl,fun j hj len=>?_⟩
   match j,hj with
   |0,_=>simp only[qa4];exact qan h0 len
   |1,_=>simp only[qa4];exact qan h1 len
   |2,_=>simp only[qa4];exact qan h2 len
   |3,_=>simp only[qa4];exact qan h3 len
   |4,_=>simp only[qa4];exact qan h4 len
   |n+5,h=>exact absurd h (by omega)
  ·cases h
 ·cases h
def Edge.c(x:Edge):Nat->EV
 |0=>.i .i64 (x.block)
 |1=>.fz (.int .i64) (x.args)
 |_=>.un
def Edge.s(x:Edge)(j:Nat)(v:EV):Option Edge:=match j with
 |0=>match qci (.int .i64) v with
  |some y=>some { x with block:=y }
  |none=>none
 |1=>match qci (.sl (.int .i64)) v with
  |some y=>some { x with args:=y }
  |none=>none
 |_=>none
def Edge.m:List EV->Option Edge
 |[a0,a1]=>match qci (.int .i64) a0,qci (.sl (.int .i64)) a1 with
  |some y0,some y1=>some ⟨y0,y1⟩
  |_,_=>none
 |_=>none
theorem Edge.qis(x:Edge)(len:Len):∀j,j<2->toV len (Edge.c x j)=.t (Edge.e x j)
 |0,_|1,_=>by simp only[Edge.c,toV];rfl
 |n+2,h=>absurd h (by omega)
theorem Edge.qd4(x:Edge):∀j,(Edge.c x j).dat=true
 |0|1=>rfl
 |n+2=>rfl
theorem Edge.qgv(x:Edge)(j:Nat)(v:EV)(y:Edge)(h:Edge.s x j v=some y):(∀len,Wk (toV len v) (toV len (Edge.c y j)))/\∀j',j'≠j->Edge.c y j'=Edge.c x j':=by
 match j with
 |0=>
  simp only[Edge.s]at h;split at h
  ·rename_i a ha;injection h with h;subst h;refine⟨qan ha,fun j' hj=>?_⟩
   match j',hj with
   |0,hj=>exact absurd rfl hj
   |1,hj=>exact rfl
   |n+2,_=>rfl
  ·cases h
 |1=>
  simp only[Edge.s]at h;split at h
  ·rename_i a ha;injection h with h;subst h;refine⟨qan ha,fun j' hj=>?_⟩
   match j',hj with
   |0,hj=>exact rfl
   |1,hj=>exact absurd rfl hj
   |n+2,_=>rfl
  ·cases h
 |n+2=>simp[Edge.s]at h
theorem Edge.qmn(l:List EV)(y:Edge)(h:Edge.m l=some y):l.length=2/\∀j,j<2->∀len,Wk (qa4 len l j) (toV len (Edge.c y j)):=by
 unfold Edge.m at h;split at h
 ·split at h
  ·rename_i h0 h1;injection h with h;subst h;refine⟨rfl,fun j hj len=>?_⟩
   match j,hj with
   |0,_=>simp only[qa4];exact qan h0 len
   |1,_=>simp only[qa4];exact qan h1 len
   |n+2,h=>exact absurd h (by omega)
  ·cases h
 ·cases h
def Term.c(x:Term):Nat->EV
 |0=>.i .i64 (x.kind)
 |1=>.i .i64 (x.cond)
 |2=>.fz (.st 1) (x.to)
 |3=>.fz (.int .i64) (x.qax)
 |_=>.un
def Term.s(x:Term)(j:Nat)(v:EV):Option Term:=match j with
 |0=>match qci (.int .i64) v with
  |some y=>some { x with kind:=y }
  |none=>none
 |1=>match qci (.int .i64) v with
  |some y=>some { x with cond:=y }
  |none=>none
 |2=>match qci (.sl (.st 1)) v with
  |some y=>some { x with to:=y }
  |none=>none
 |3=>match qci (.sl (.int .i64)) v with
  |some y=>some { x with qax:=y }
  |none=>none
 |_=>none
def Term.m:List EV->Option Term
 |[a0,a1,a2,a3]=>match qci (.int .i64) a0,qci (.int .i64) a1,qci (.sl (.st 1)) a2,qci (.sl (.int .i64)) a3 with
  |some y0,some y1,some y2,some y3=>some ⟨y0,y1,y2,y3⟩
  |_,_,_,_=>none
 |_=>none
theorem Term.qis(x:Term)(len:Len):∀j,j<4->toV len (Term.c x j)=.t (Term.e x j)
 |0,_|1,_|2,_|3,_=>by simp only[Term.c,toV];rfl
 |n+4,h=>absurd h (by omega)
theorem Term.qd4(x:Term):∀j,(Term.c x j).dat=true
 |0|1|2|3=>rfl
 |n+4=>rfl
theorem Term.qgv(x:Term)(j:Nat)(v:EV)(y:Term)(h:Term.s x j v=some y):(∀len,Wk (toV len v) (toV len (Term.c y j)))/\∀j',j'≠j->Term.c y j'=Term.c x j':=by
 match j with
 |0=>
  simp only[Term.s]at h;split at h
  ·rename_i a ha;injection h with h;subst h;refine⟨qan ha,fun j' hj=>?_⟩
   match j',hj with
   |0,hj=>exact absurd rfl hj
   |1,hj|2,hj|3,hj=>exact rfl
   |n+4,_=>rfl
  ·cases h
 |1=>
  simp only[Term.s]at h;split at h
  ·rename_i a ha;injection h with h;subst h;refine⟨qan ha,fun j' hj=>?_⟩
   match j',hj with
   |0,hj=>exact rfl
   |1,hj=>exact absurd rfl hj
   |2,hj|3,hj=>exact rfl
   |n+4,_=>rfl
  ·cases h
 |2=>
  simp only[Term.s]at h;split at h
  ·rename_i a ha;injection h with h;subst h;refine⟨qan ha,fun j' hj=>?_⟩
   match j',hj with
   |0,hj|1,hj=>exact rfl
   |2,hj=>exact absurd rfl hj
   |3,hj=>exact rfl
   |n+4,_=>rfl
  ·cases h
 |3=>
  simp only[Term.s]at h;split at h
  ·rename_i a ha;injection h with h;subst h;refine⟨qan ha,fun j' hj=>?_⟩
   match j',hj with
   |0,hj|1,hj|2,hj=>exact rfl
   |3,hj=>exact absurd rfl hj
   |n+4,_=>rfl
  ·cases h
 |n+4=>simp[Term.s]at h
theorem Term.qmn(l:List EV)(y:Term)(h:Term.m l=some y):l.length=4/\∀j,j<4->∀len,Wk (qa4 len l j) (toV len (Term.c y j)):=by
 unfold Term.m at h;split at h
 ·split at h
  ·rename_i h0 h1 h2 h3;injection h with h;subst h;refine⟨rfl,fun j hj len=>?_⟩
   match j,hj with
   |0,_=>simp only[qa4];exact qan h0 len
   |1,_=>simp only[qa4];exact qan h1 len
   |2,_=>simp only[qa4];exact qan h2 len
   |3,_=>simp only[qa4];exact qan h3 len
   |n+4,h=>exact absurd h (by omega)
  ·cases h
 ·cases h
def Block.c(x:Block):Nat->EV
 |0=>.fz (.int .i64) (x.params)
 |1=>.fz (.st 0) (x.insts)
 |2=>.i .i64 (x.term.kind)
 |3=>.i .i64 (x.term.cond)
 |4=>.fz (.st 1) (x.term.to)
 |5=>.fz (.int .i64) (x.term.qax)
 |6=>.i .i64 (x.qar)
 |7=>.i .i64 (x.qa9)
 |8=>.i .i64 (x.line)
 |_=>.un
def Block.s(x:Block)(j:Nat)(v:EV):Option Block:=match j with
 |0=>match qci (.sl (.int .i64)) v with
  |some y=>some { x with params:=y }
  |none=>none
 |1=>match qci (.sl (.st 0)) v with
  |some y=>some { x with insts:=y }
  |none=>none
 |2=>match qci (.int .i64) v with
  |some y=>some { x with term:={ x.term with kind:=y } }
  |none=>none
 |3=>match qci (.int .i64) v with
  |some y=>some { x with term:={ x.term with cond:=y } }
  |none=>none
 |4=>match qci (.sl (.st 1)) v with
  |some y=>some { x with term:={ x.term with to:=y } }
  |none=>none
 |5=>match qci (.sl (.int .i64)) v with
  |some y=>some { x with term:={ x.term with qax:=y } }
  |none=>none
 |6=>match qci (.int .i64) v with
  |some y=>some { x with qar:=y }
  |none=>none
 |7=>match qci (.int .i64) v with
  |some y=>some { x with qa9:=y }
  |none=>none
 |8=>match qci (.int .i64) v with
  |some y=>some { x with line:=y }
  |none=>none
 |_=>none
def Block.m:List EV->Option Block
 |[a0,a1,a2,a3,a4,a5,a6,a7,a8]=>match qci (.sl (.int .i64)) a0,qci (.sl (.st 0)) a1,qci (.int .i64) a2,qci (.int .i64) a3,qci (.sl (.st 1)) a4,qci (.sl (.int .i64)) a5,qci (.int .i64) a6,qci (.int .i64) a7,qci (.int .i64) a8 with
  |some y0,some y1,some y2,some y3,some y4,some y5,some y6,some y7,some y8=>some ⟨y0,y1,⟨y2,y3,y4,y5⟩,y6,y7,y8⟩
  |_,_,_,_,_,_,_,_,_=>none
 |_=>none
theorem Block.qis(x:Block)(len:Len):∀j,j<9->toV len (Block.c x j)=.t (Block.e x j)
 |0,_|1,_|2,_|3,_|4,_|5,_|6,_|7,_|8,_=>by simp only[Block.c,toV];rfl
 |n+9,h=>absurd h (by omega)
theorem Block.qd4(x:Block):∀j,(Block.c x j).dat=true
 |0|1|2|3|4|5|6|7|8=>rfl
 |n+9=>rfl
theorem Block.qgv(x:Block)(j:Nat)(v:EV)(y:Block)(h:Block.s x j v=some y):(∀len,Wk (toV len v) (toV len (Block.c y j)))/\∀j',j'≠j->Block.c y j'=Block.c x j':=by
 match j with
 |0=>
  simp only[Block.s]at h;split at h
  ·rename_i a ha;injection h with h;subst h;refine⟨qan ha,fun j' hj=>?_⟩
   match j',hj with
   |0,hj=>exact absurd rfl hj
   |1,hj|2,hj|3,hj|4,hj|5,hj|6,hj|7,hj|8,hj=>exact rfl
   |n+9,_=>rfl
  ·cases h
 |1=>
  simp only[Block.s]at h;split at h
  ·rename_i a ha;injection h with h;subst h;refine⟨qan ha,fun j' hj=>?_⟩
   match j',hj with
   |0,hj=>exact rfl
   |1,hj=>exact absurd rfl hj
   |2,hj|3,hj|4,hj|5,hj|6,hj|7,hj|8,hj=>exact rfl
   |n+9,_=>rfl
  ·cases h
 |2=>
  simp only[Block.s]at h;split at h
  ·rename_i a ha;injection h with h;subst h;refine⟨qan ha,fun j' hj=>?_⟩
   match j',hj with
   |0,hj|1,hj=>exact rfl
   |2,hj=>exact absurd rfl hj
   |3,hj|4,hj|5,hj|6,hj|7,hj|8,hj=>exact rfl
   |n+9,_=>rfl
  ·cases h
 |3=>
  simp only[Block.s]at h;split at h
  ·rename_i a ha;injection h with h;subst h;refine⟨qan ha,fun j' hj=>?_⟩
   match j',hj with
   |0,hj|1,hj|2,hj=>exact rfl
   |3,hj=>exact absurd rfl hj
   |4,hj|5,hj|6,hj|7,hj|8,hj=>exact rfl
   |n+9,_=>rfl
  ·cases h
 |4=>
  simp only[Block.s]at h;split at h
  ·rename_i a ha;injection h with h;subst h;refine⟨qan ha,fun j' hj=>?_⟩
   match j',hj with
   |0,hj|1,hj|2,hj|3,hj=>exact rfl
   |4,hj=>exact absurd rfl hj
   |5,hj|6,hj|7,hj|8,hj=>exact rfl
   |n+9,_=>rfl
  ·cases h
 |5=>
  simp only[Block.s]at h;split at h
  ·rename_i a ha;injection h with h;subst h;refine⟨qan ha,fun j' hj=>?_⟩
   match j',hj with
   |0,hj|1,hj|2,hj|3,hj|4,hj=>exact rfl
   |5,hj=>exact absurd rfl hj
   |6,hj|7,hj|8,hj=>exact rfl
   |n+9,_=>rfl
  ·cases h
 |6=>
  simp only[Block.s]at h;split at h
  ·rename_i a ha;injection h with h;subst h;refine⟨qan ha,fun j' hj=>?_⟩
   match j',hj with
   |0,hj|1,hj|2,hj|3,hj|4,hj|5,hj=>exact rfl
   |6,hj=>exact absurd rfl hj
   |7,hj|8,hj=>exact rfl
   |n+9,_=>rfl
  ·cases h
 |7=>
  simp only[Block.s]at h;split at h
  ·rename_i a ha;injection h with h;subst h;refine⟨qan ha,fun j' hj=>?_⟩
   match j',hj with
   |0,hj|1,hj|2,hj|3,hj|4,hj|5,hj|6,hj=>exact rfl
   |7,hj=>exact absurd rfl hj
   |8,hj=>exact rfl
   |n+9,_=>rfl
  ·cases h
 |8=>
  simp only[Block.s]at h;split at h
  ·rename_i a ha;injection h with h;subst h;refine⟨qan ha,fun j' hj=>?_⟩
   match j',hj with
   |0,hj|1,hj|2,hj|3,hj|4,hj|5,hj|6,hj|7,hj=>exact rfl
   |8,hj=>exact absurd rfl hj
   |n+9,_=>rfl
  ·cases h
 |n+9=>simp[Block.s]at h
theorem Block.qmn(l:List EV)(y:Block)(h:Block.m l=some y):l.length=9/\∀j,j<9->∀len,Wk (qa4 len l j) (toV len (Block.c y j)):=by
 unfold Block.m at h;split at h
 ·split at h
  ·rename_i h0 h1 h2 h3 h4 h5 h6 h7 h8;injection h with h;subst h;refine⟨rfl,fun j hj len=>?_⟩
   match j,hj with
   |0,_=>simp only[qa4];exact qan h0 len
   |1,_=>simp only[qa4];exact qan h1 len
   |2,_=>simp only[qa4];exact qan h2 len
   |3,_=>simp only[qa4];exact qan h3 len
   |4,_=>simp only[qa4];exact qan h4 len
   |5,_=>simp only[qa4];exact qan h5 len
   |6,_=>simp only[qa4];exact qan h6 len
   |7,_=>simp only[qa4];exact qan h7 len
   |8,_=>simp only[qa4];exact qan h8 len
   |n+9,h=>exact absurd h (by omega)
  ·cases h
 ·cases h
def Arr.c(x:Arr):Nat->EV
 |0=>.s (x.name)
 |1=>.i .i64 (x.width)
 |2=>.i .i64 (x.len)
 |3=>.i .i64 (x.kind)
 |4=>.i .i64 (x.factor)
 |_=>.un
def Arr.s(x:Arr)(j:Nat)(v:EV):Option Arr:=match j with
 |0=>match qci (.str) v with
  |some y=>some { x with name:=y }
  |none=>none
 |1=>match qci (.int .i64) v with
  |some y=>some { x with width:=y }
  |none=>none
 |2=>match qci (.int .i64) v with
  |some y=>some { x with len:=y }
  |none=>none
 |3=>match qci (.int .i64) v with
  |some y=>some { x with kind:=y }
  |none=>none
 |4=>match qci (.int .i64) v with
  |some y=>some { x with factor:=y }
  |none=>none
 |_=>none
def Arr.m:List EV->Option Arr
 |[a0,a1,a2,a3,a4]=>match qci (.str) a0,qci (.int .i64) a1,qci (.int .i64) a2,qci (.int .i64) a3,qci (.int .i64) a4 with
  |some y0,some y1,some y2,some y3,some y4=>some ⟨y0,y1,y2,y3,y4⟩
  |_,_,_,_,_=>none
 |_=>none
theorem Arr.qis(x:Arr)(len:Len):∀j,j<5->toV len (Arr.c x j)=.t (Arr.e x j)
 |0,_|1,_|2,_|3,_|4,_=>by simp only[Arr.c,toV];rfl
 |n+5,h=>absurd h (by omega)
theorem Arr.qd4(x:Arr):∀j,(Arr.c x j).dat=true
 |0|1|2|3|4=>rfl
 |n+5=>rfl
theorem Arr.qgv(x:Arr)(j:Nat)(v:EV)(y:Arr)(h:Arr.s x j v=some y):(∀len,Wk (toV len v) (toV len (Arr.c y j)))/\∀j',j'≠j->Arr.c y j'=Arr.c x j':=by
 match j with
 |0=>
  simp only[Arr.s]at h;split at h
  ·rename_i a ha;injection h with h;subst h;refine⟨qan ha,fun j' hj=>?_⟩
   match j',hj with
   |0,hj=>exact absurd rfl hj
   |1,hj|2,hj|3,hj|4,hj=>exact rfl
   |n+5,_=>rfl
  ·cases h
 |1=>
  simp only[Arr.s]at h;split at h
  ·rename_i a ha;injection h with h;subst h;refine⟨qan ha,fun j' hj=>?_⟩
   match j',hj with
   |0,hj=>exact rfl
   |1,hj=>exact absurd rfl hj
   |2,hj|3,hj|4,hj=>exact rfl
   |n+5,_=>rfl
  ·cases h
 |2=>
  simp only[Arr.s]at h;split at h
  ·rename_i a ha;injection h with h;subst h;refine⟨qan ha,fun j' hj=>?_⟩
   match j',hj with
   |0,hj|1,hj=>exact rfl
   |2,hj=>exact absurd rfl hj
   |3,hj|4,hj=>exact rfl
   |n+5,_=>rfl
  ·cases h
 |3=>
  simp only[Arr.s]at h;split at h
  ·rename_i a ha;injection h with h;subst h;refine⟨qan ha,fun j' hj=>?_⟩
   match j',hj with
   |0,hj|1,hj|2,hj=>exact rfl
   |3,hj=>exact absurd rfl hj
   |4,hj=>exact rfl
   |n+5,_=>rfl
  ·cases h
 |4=>
  simp only[Arr.s]at h;split at h
  ·rename_i a ha;injection h with h;subst h;refine⟨qan ha,fun j' hj=>?_⟩
   match j',hj with
   |0,hj|1,hj|2,hj|3,hj=>exact rfl
   |4,hj=>exact absurd rfl hj
   |n+5,_=>rfl
  ·cases h
 |n+5=>simp[Arr.s]at h
theorem Arr.qmn(l:List EV)(y:Arr)(h:Arr.m l=some y):l.length=5/\∀j,j<5->∀len,Wk (qa4 len l j) (toV len (Arr.c y j)):=by
 unfold Arr.m at h;split at h
 ·split at h
  ·rename_i h0 h1 h2 h3 h4;injection h with h;subst h;refine⟨rfl,fun j hj len=>?_⟩
   match j,hj with
   |0,_=>simp only[qa4];exact qan h0 len
   |1,_=>simp only[qa4];exact qan h1 len
   |2,_=>simp only[qa4];exact qan h2 len
   |3,_=>simp only[qa4];exact qan h3 len
   |4,_=>simp only[qa4];exact qan h4 len
   |n+5,h=>exact absurd h (by omega)
  ·cases h
 ·cases h
def qbd.c(x:qbd):Nat->EV
 |0=>.s (x.name)
 |1=>.i .i64 (x.width)
 |2=>.b (x.out)
 |_=>.un
def qbd.s(x:qbd)(j:Nat)(v:EV):Option qbd:=match j with
 |0=>match qci (.str) v with
  |some y=>some { x with name:=y }
  |none=>none
 |1=>match qci (.int .i64) v with
  |some y=>some { x with width:=y }
  |none=>none
 |2=>match qci (.bool) v with
  |some y=>some { x with out:=y }
  |none=>none
 |_=>none
def qbd.m:List EV->Option qbd
 |[a0,a1,a2]=>match qci (.str) a0,qci (.int .i64) a1,qci (.bool) a2 with
  |some y0,some y1,some y2=>some ⟨y0,y1,y2⟩
  |_,_,_=>none
 |_=>none
theorem qbd.qis(x:qbd)(len:Len):∀j,j<3->toV len (qbd.c x j)=.t (qbd.e x j)
 |0,_|1,_|2,_=>by simp only[qbd.c,toV];rfl
 |n+3,h=>absurd h (by omega)
theorem qbd.qd4(x:qbd):∀j,(qbd.c x j).dat=true
 |0|1|2=>rfl
 |n+3=>rfl
theorem qbd.qgv(x:qbd)(j:Nat)(v:EV)(y:qbd)(h:qbd.s x j v=some y):(∀len,Wk (toV len v) (toV len (qbd.c y j)))/\∀j',j'≠j->qbd.c y j'=qbd.c x j':=by
 match j with
 |0=>
  simp only[qbd.s]at h;split at h
  ·rename_i a ha;injection h with h;subst h;refine⟨qan ha,fun j' hj=>?_⟩
   match j',hj with
   |0,hj=>exact absurd rfl hj
   |1,hj|2,hj=>exact rfl
   |n+3,_=>rfl
  ·cases h
 |1=>
  simp only[qbd.s]at h;split at h
  ·rename_i a ha;injection h with h;subst h;refine⟨qan ha,fun j' hj=>?_⟩
   match j',hj with
   |0,hj=>exact rfl
   |1,hj=>exact absurd rfl hj
   |2,hj=>exact rfl
   |n+3,_=>rfl
  ·cases h
 |2=>
  simp only[qbd.s]at h;split at h
  ·rename_i a ha;injection h with h;subst h;refine⟨qan ha,fun j' hj=>?_⟩
   match j',hj with
   |0,hj|1,hj=>exact rfl
   |2,hj=>exact absurd rfl hj
   |n+3,_=>rfl
  ·cases h
 |n+3=>simp[qbd.s]at h
theorem qbd.qmn(l:List EV)(y:qbd)(h:qbd.m l=some y):l.length=3/\∀j,j<3->∀len,Wk (qa4 len l j) (toV len (qbd.c y j)):=by
 unfold qbd.m at h;split at h
 ·split at h
  ·rename_i h0 h1 h2;injection h with h;subst h;refine⟨rfl,fun j hj len=>?_⟩
   match j,hj with
   |0,_=>simp only[qa4];exact qan h0 len
   |1,_=>simp only[qa4];exact qan h1 len
   |2,_=>simp only[qa4];exact qan h2 len
   |n+3,h=>exact absurd h (by omega)
  ·cases h
 ·cases h
def Fn.c(x:Fn):Nat->EV
 |0=>.s (x.name)
 |1=>.fz (.int .i64) (x.qaa)
 |2=>.fz (.st 4) (x.qag)
 |3=>.fz (.st 5) (x.streams)
 |4=>.fz (.int .i64) (x.qax)
 |5=>.fz (.st 3) (x.blocks)
 |_=>.un
def Fn.s(x:Fn)(j:Nat)(v:EV):Option Fn:=match j with
 |0=>match qci (.str) v with
  |some y=>some { x with name:=y }
  |none=>none
 |1=>match qci (.sl (.int .i64)) v with
  |some y=>some { x with qaa:=y }
  |none=>none
 |2=>match qci (.sl (.st 4)) v with
  |some y=>some { x with qag:=y }
  |none=>none
 |3=>match qci (.sl (.st 5)) v with
  |some y=>some { x with streams:=y }
  |none=>none
 |4=>match qci (.sl (.int .i64)) v with
  |some y=>some { x with qax:=y }
  |none=>none
 |5=>match qci (.sl (.st 3)) v with
  |some y=>some { x with blocks:=y }
  |none=>none
 |_=>none
def Fn.m:List EV->Option Fn
 |[a0,a1,a2,a3,a4,a5]=>match qci (.str) a0,qci (.sl (.int .i64)) a1,qci (.sl (.st 4)) a2,qci (.sl (.st 5)) a3,qci (.sl (.int .i64)) a4,qci (.sl (.st 3)) a5 with
  |some y0,some y1,some y2,some y3,some y4,some y5=>some ⟨y0,y1,y2,y3,y4,y5⟩
  |_,_,_,_,_,_=>none
 |_=>none
theorem Fn.qis(x:Fn)(len:Len):∀j,j<6->toV len (Fn.c x j)=.t (Fn.e x j)
 |0,_|1,_|2,_|3,_|4,_|5,_=>by simp only[Fn.c,toV];rfl
 |n+6,h=>absurd h (by omega)
theorem Fn.qd4(x:Fn):∀j,(Fn.c x j).dat=true
 |0|1|2|3|4|5=>rfl
 |n+6=>rfl
theorem Fn.qgv(x:Fn)(j:Nat)(v:EV)(y:Fn)(h:Fn.s x j v=some y):(∀len,Wk (toV len v) (toV len (Fn.c y j)))/\∀j',j'≠j->Fn.c y j'=Fn.c x j':=by
 match j with
 |0=>
  simp only[Fn.s]at h;split at h
  ·rename_i a ha;injection h with h;subst h;refine⟨qan ha,fun j' hj=>?_⟩
   match j',hj with
   |0,hj=>exact absurd rfl hj
   |1,hj|2,hj|3,hj|4,hj|5,hj=>exact rfl
   |n+6,_=>rfl
  ·cases h
 |1=>
  simp only[Fn.s]at h;split at h
  ·rename_i a ha;injection h with h;subst h;refine⟨qan ha,fun j' hj=>?_⟩
   match j',hj with
   |0,hj=>exact rfl
   |1,hj=>exact absurd rfl hj
   |2,hj|3,hj|4,hj|5,hj=>exact rfl
   |n+6,_=>rfl
  ·cases h
 |2=>
  simp only[Fn.s]at h;split at h
  ·rename_i a ha;injection h with h;subst h;refine⟨qan ha,fun j' hj=>?_⟩
   match j',hj with
   |0,hj|1,hj=>exact rfl
   |2,hj=>exact absurd rfl hj
   |3,hj|4,hj|5,hj=>exact rfl
   |n+6,_=>rfl
  ·cases h
 |3=>
  simp only[Fn.s]at h;split at h
  ·rename_i a ha;injection h with h;subst h;refine⟨qan ha,fun j' hj=>?_⟩
   match j',hj with
   |0,hj|1,hj|2,hj=>exact rfl
   |3,hj=>exact absurd rfl hj
   |4,hj|5,hj=>exact rfl
   |n+6,_=>rfl
  ·cases h
 |4=>
  simp only[Fn.s]at h;split at h
  ·rename_i a ha;injection h with h;subst h;refine⟨qan ha,fun j' hj=>?_⟩
   match j',hj with
   |0,hj|1,hj|2,hj|3,hj=>exact rfl
   |4,hj=>exact absurd rfl hj
   |5,hj=>exact rfl
   |n+6,_=>rfl
  ·cases h
 |5=>
  simp only[Fn.s]at h;split at h
  ·rename_i a ha;injection h with h;subst h;refine⟨qan ha,fun j' hj=>?_⟩
   match j',hj with
   |0,hj|1,hj|2,hj|3,hj|4,hj=>exact rfl
   |5,hj=>exact absurd rfl hj
   |n+6,_=>rfl
  ·cases h
 |n+6=>simp[Fn.s]at h
theorem Fn.qmn(l:List EV)(y:Fn)(h:Fn.m l=some y):l.length=6/\∀j,j<6->∀len,Wk (qa4 len l j) (toV len (Fn.c y j)):=by
 unfold Fn.m at h;split at h
 ·split at h
  ·rename_i h0 h1 h2 h3 h4 h5;injection h with h;subst h;refine⟨rfl,fun j hj len=>?_⟩
   match j,hj with
   |0,_=>simp only[qa4];exact qan h0 len
   |1,_=>simp only[qa4];exact qan h1 len
   |2,_=>simp only[qa4];exact qan h2 len
   |3,_=>simp only[qa4];exact qan h3 len
   |4,_=>simp only[qa4];exact qan h4 len
   |5,_=>simp only[qa4];exact qan h5 len
   |n+6,h=>exact absurd h (by omega)
  ·cases h
 ·cases h
def Typ.c(x:Typ):Nat->EV
 |0=>.i .i64 (x.width)
 |1=>.b (x.signed)
 |_=>.un
def Typ.s(x:Typ)(j:Nat)(v:EV):Option Typ:=match j with
 |0=>match qci (.int .i64) v with
  |some y=>some { x with width:=y }
  |none=>none
 |1=>match qci (.bool) v with
  |some y=>some { x with signed:=y }
  |none=>none
 |_=>none
def Typ.m:List EV->Option Typ
 |[a0,a1]=>match qci (.int .i64) a0,qci (.bool) a1 with
  |some y0,some y1=>some ⟨y0,y1⟩
  |_,_=>none
 |_=>none
theorem Typ.qis(x:Typ)(len:Len):∀j,j<2->toV len (Typ.c x j)=.t (Typ.e x j)
 |0,_|1,_=>by simp only[Typ.c,toV];rfl
 |n+2,h=>absurd h (by omega)
theorem Typ.qd4(x:Typ):∀j,(Typ.c x j).dat=true
 |0|1=>rfl
 |n+2=>rfl
theorem Typ.qgv(x:Typ)(j:Nat)(v:EV)(y:Typ)(h:Typ.s x j v=some y):(∀len,Wk (toV len v) (toV len (Typ.c y j)))/\∀j',j'≠j->Typ.c y j'=Typ.c x j':=by
 match j with
 |0=>
  simp only[Typ.s]at h;split at h
  ·rename_i a ha;injection h with h;subst h;refine⟨qan ha,fun j' hj=>?_⟩
   match j',hj with
   |0,hj=>exact absurd rfl hj
   |1,hj=>exact rfl
   |n+2,_=>rfl
  ·cases h
 |1=>
  simp only[Typ.s]at h;split at h
  ·rename_i a ha;injection h with h;subst h;refine⟨qan ha,fun j' hj=>?_⟩
   match j',hj with
   |0,hj=>exact rfl
   |1,hj=>exact absurd rfl hj
   |n+2,_=>rfl
  ·cases h
 |n+2=>simp[Typ.s]at h
theorem Typ.qmn(l:List EV)(y:Typ)(h:Typ.m l=some y):l.length=2/\∀j,j<2->∀len,Wk (qa4 len l j) (toV len (Typ.c y j)):=by
 unfold Typ.m at h;split at h
 ·split at h
  ·rename_i h0 h1;injection h with h;subst h;refine⟨rfl,fun j hj len=>?_⟩
   match j,hj with
   |0,_=>simp only[qa4];exact qan h0 len
   |1,_=>simp only[qa4];exact qan h1 len
   |n+2,h=>exact absurd h (by omega)
  ·cases h
 ·cases h
def qai.c(x:qai):Nat->Cell
 |0=>.ev (.i .i64 (x.op))
 |1=>.ev (.i .i64 (x.dest))
 |2=>match x.args with
  |.own l=>.own 3 (.int .i64) l
  |.fz l=>.ev (.fz (.int .i64) l)
 |3=>.ev (.i .u64 (x.num))
 |4=>.ev (.i .i64 (x.mem))
 |_=>.ev .un
def qai.s(x:qai)(j:Nat)(v:EV):Option qai:=match j with
 |0=>match qci (.int .i64) v with
  |some y=>some { x with op:=y }
  |none=>none
 |1=>match qci (.int .i64) v with
  |some y=>some { x with dest:=y }
  |none=>none
 |3=>match qci (.int .u64) v with
  |some y=>some { x with num:=y }
  |none=>none
 |4=>match qci (.int .i64) v with
  |some y=>some { x with mem:=y }
  |none=>none
 |_=>none
def qai.oS(x:qai)(j:Nat)(t:TypeId)(e:Ty)(l:List e.D):Option qai:=match j with
 | 2=>bif Nat.beq t 3 then(match qbq List e (.int .i64) l with
  |some y=>some { x with args:=.own y }
  | none=>none)else none
 |_=>none
def qai.k(x:qai)(j:Nat)(t:TypeId)(e:Ty)(l:List e.D):Option qai:=match qai.c x j with
 |.own _ _ _=>qai.oS x j t e l
 |.ev _=>none
def qai.oT:Nat->Option (TypeId×Ty)
 |2=>some (3,(.int .i64))
 |_=>none
def qai.fT:Nat->Option Ty
 |2=>some (.int .i64)
 |_=>none
def qai.oG(x:qai)(j:Nat)(e:Ty):Option (List e.D):=match j with
 | 2=>(match qbq (fun X=>Option (List X)) (.int .i64) e (Sp.qgx x.args)with
  |some o=>o
  | none=>none)
 |_=>none
def qai.fG(x:qai)(j:Nat)(e:Ty):Option (List e.D):=match j with
 | 2=>(match qbq (fun X=>Option (List X)) (.int .i64) e (Sp.qsp x.args)with
  |some o=>o
  | none=>none)
 |_=>none
theorem qai.qgv(x:qai)(j:Nat)(v:EV)(y:qai)(h:qai.s x j v=some y):(∃u0,qai.c x j=.ev u0)/\(∃u,qai.c y j=.ev u/\∀len,Wk (toV len v) (toV len u))/\∀j',j'≠j->qai.c y j'=qai.c x j':=by
 match j with
 |0=>
  simp only[qai.s]at h;split at h
  ·rename_i a ha;injection h with h;subst h;refine⟨⟨_,rfl⟩,⟨_,rfl,qan ha⟩,fun j' hj=>?_⟩
   match j',hj with
   |0,hj=>exact absurd rfl hj
   |1,hj|2,hj|3,hj|4,hj=>exact rfl
   |n+5,_=>rfl
  ·cases h
 |1=>
  simp only[qai.s]at h;split at h
  ·rename_i a ha;injection h with h;subst h;refine⟨⟨_,rfl⟩,⟨_,rfl,qan ha⟩,fun j' hj=>?_⟩
   match j',hj with
   |0,hj=>exact rfl
   |1,hj=>exact absurd rfl hj
   |2,hj|3,hj|4,hj=>exact rfl
   |n+5,_=>rfl
  ·cases h
 |2=>simp[qai.s]at h
 |3=>
  simp only[qai.s]at h;split at h
  ·rename_i a ha;injection h with h;subst h;refine⟨⟨_,rfl⟩,⟨_,rfl,qan ha⟩,fun j' hj=>?_⟩
   match j',hj with
   |0,hj|1,hj|2,hj=>exact rfl
   |3,hj=>exact absurd rfl hj
   |4,hj=>exact rfl
   |n+5,_=>rfl
  ·cases h
 |4=>
  simp only[qai.s]at h;split at h
  ·rename_i a ha;injection h with h;subst h;refine⟨⟨_,rfl⟩,⟨_,rfl,qan ha⟩,fun j' hj=>?_⟩
   match j',hj with
   |0,hj|1,hj|2,hj|3,hj=>exact rfl
   |4,hj=>exact absurd rfl hj
   |n+5,_=>rfl
  ·cases h
 |n+5=>simp[qai.s]at h
theorem qai.qfw(x:qai)(j:Nat)(t:TypeId)(e:Ty)(l:List e.D)(y:qai)(h:qai.oS x j t e l=some y):qai.c y j=.own t e l/\∀j',j'≠j->qai.c y j'=qai.c x j':=by
 match j with
 |0=>simp[qai.oS]at h
 |1=>simp[qai.oS]at h
 |2=>
  simp only[qai.oS]at h;cases hb:Nat.beq t 3 with
  |false=>rw[hb]at h;cases h
  |true=>
   rw[hb]at h;obtain rfl:=zi6 hb;simp only[cond_true]at h;split at h
   ·rename_i a ha;injection h with h;subst h;obtain⟨rfl,ha⟩:=qa2 ha;obtain rfl:=eq_of_heq ha;refine⟨rfl,fun j' hj=>?_⟩
    match j',hj with
    |0,hj|1,hj=>exact rfl
    |2,hj=>exact absurd rfl hj
    |3,hj|4,hj=>exact rfl
    |n+5,_=>rfl
   ·cases h
 |3=>simp[qai.oS]at h
 |4=>simp[qai.oS]at h
 |n+5=>simp[qai.oS]at h
theorem qai.qfx(x:qai)(j:Nat)(t:TypeId)(e:Ty)(l:List e.D)(h1:qai.oT j=some (t,e))(h2:qai.oG x j e=some l):qai.c x j=.own t e l:=by
 match j with
 |0=>simp[qai.oT]at h1
 |1=>simp[qai.oT]at h1
 |2=>
  injection h1 with h1;injection h1 with h1 h3;subst h1;subst h3;simp only[qai.oG,qaz,qai.c]at h2 ⊢;cases hx:x.args with
  |own l'=>rw[hx]at h2;injection h2 with h2;subst h2;rfl
  |fz l'=>rw[hx]at h2;cases h2
 |3=>simp[qai.oT]at h1
 |4=>simp[qai.oT]at h1
 |n+5=>simp[qai.oT]at h1
theorem qai.qkd(x:qai)(j:Nat)(e:Ty)(l:List e.D)(h1:qai.fT j=some e)(h2:qai.fG x j e=some l):qai.c x j=.ev (.fz e l):=by
 match j with
 |0=>simp[qai.fT]at h1
 |1=>simp[qai.fT]at h1
 |2=>
  injection h1 with h1;subst h1;simp only[qai.fG,qaz,qai.c]at h2 ⊢;cases hx:x.args with
  |fz l'=>rw[hx]at h2;injection h2 with h2;subst h2;rfl
  |own l'=>rw[hx]at h2;cases h2
 |3=>simp[qai.fT]at h1
 |4=>simp[qai.fT]at h1
 |n+5=>simp[qai.fT]at h1
theorem qai.same(x:qai)(j:Nat)(t:TypeId)(e:Ty)(l:List e.D)(y:qai)(t0:TypeId)(e0:Ty)(l0:List e0.D)(h:qai.oS x j t e l=some y)(hc:qai.c x j=.own t0 e0 l0):∃l1,qai.c x j=.own t e l1:=by
 match j with
 |0=>simp[qai.oS]at h
 |1=>simp[qai.oS]at h
 |2=>
  simp only[qai.oS]at h;cases hb:Nat.beq t 3 with
  |false=>rw[hb]at h;cases h
  |true=>
   rw[hb]at h;obtain rfl:=zi6 hb;simp only[cond_true]at h;split at h
   ·rename_i a ha;obtain⟨rfl,_⟩:=qa2 ha;simp only[qai.c]at hc ⊢;cases hx:x.args with
    |own l1=>exact⟨l1,rfl⟩
    |fz l1=>rw[hx]at hc;cases hc
   ·cases h
 |3=>simp[qai.oS]at h
 |4=>simp[qai.oS]at h
 |n+5=>simp[qai.oS]at h
theorem qai.qh6(j:Nat)(t:TypeId)(e:Ty)(l:List e.D)(h:qai.c qai.z j=.own t e l):l=[]:=by
 match j with
 |0|1|2|3|4=>cases h
 |n+5=>cases h
theorem qai.qd4(x:qai)(j:Nat)(u:EV)(h:qai.c x j=.ev u):u.dat=true:=by
 match j with
 |0|1=>injection h with h;subst h;rfl
 |2=>
  simp only[qai.c]at h;cases hx:x.args<;>rw[hx]at h
  ·cases h
  ·injection h with h;subst h;rfl
 |3|4=>injection h with h;subst h;rfl
 |n+5=>injection h with h;subst h;rfl
def qam.c(x:qam):Nat->Cell
 |0=>.ev (.i .i64 (x.block))
 |1=>match x.args with
  |.own l=>.own 3 (.int .i64) l
  |.fz l=>.ev (.fz (.int .i64) l)
 |_=>.ev .un
def qam.s(x:qam)(j:Nat)(v:EV):Option qam:=match j with
 |0=>match qci (.int .i64) v with
  |some y=>some { x with block:=y }
  |none=>none
 |_=>none
def qam.oS(x:qam)(j:Nat)(t:TypeId)(e:Ty)(l:List e.D):Option qam:=match j with
 | 1=>bif Nat.beq t 3 then(match qbq List e (.int .i64) l with
  |some y=>some { x with args:=.own y }
  | none=>none)else none
 |_=>none
def qam.k(x:qam)(j:Nat)(t:TypeId)(e:Ty)(l:List e.D):Option qam:=match qam.c x j with
 |.own _ _ _=>qam.oS x j t e l
 |.ev _=>none
def qam.oT:Nat->Option (TypeId×Ty)
 |1=>some (3,(.int .i64))
 |_=>none
def qam.fT:Nat->Option Ty
 |1=>some (.int .i64)
 |_=>none
def qam.oG(x:qam)(j:Nat)(e:Ty):Option (List e.D):=match j with
 | 1=>(match qbq (fun X=>Option (List X)) (.int .i64) e (Sp.qgx x.args)with
  |some o=>o
  | none=>none)
 |_=>none
def qam.fG(x:qam)(j:Nat)(e:Ty):Option (List e.D):=match j with
 | 1=>(match qbq (fun X=>Option (List X)) (.int .i64) e (Sp.qsp x.args)with
  |some o=>o
  | none=>none)
 |_=>none
theorem qam.qgv(x:qam)(j:Nat)(v:EV)(y:qam)(h:qam.s x j v=some y):(∃u0,qam.c x j=.ev u0)/\(∃u,qam.c y j=.ev u/\∀len,Wk (toV len v) (toV len u))/\∀j',j'≠j->qam.c y j'=qam.c x j':=by
 match j with
 |0=>
  simp only[qam.s]at h;split at h
  ·rename_i a ha;injection h with h;subst h;refine⟨⟨_,rfl⟩,⟨_,rfl,qan ha⟩,fun j' hj=>?_⟩
   match j',hj with
   |0,hj=>exact absurd rfl hj
   |1,hj=>exact rfl
   |n+2,_=>rfl
  ·cases h
 |1=>simp[qam.s]at h
 |n+2=>simp[qam.s]at h
theorem qam.qfw(x:qam)(j:Nat)(t:TypeId)(e:Ty)(l:List e.D)(y:qam)(h:qam.oS x j t e l=some y):qam.c y j=.own t e l/\∀j',j'≠j->qam.c y j'=qam.c x j':=by
 match j with
 |0=>simp[qam.oS]at h
 |1=>
  simp only[qam.oS]at h;cases hb:Nat.beq t 3 with
  |false=>rw[hb]at h;cases h
  |true=>
   rw[hb]at h;obtain rfl:=zi6 hb;simp only[cond_true]at h;split at h
   ·rename_i a ha;injection h with h;subst h;obtain⟨rfl,ha⟩:=qa2 ha;obtain rfl:=eq_of_heq ha;refine⟨rfl,fun j' hj=>?_⟩
    match j',hj with
    |0,hj=>exact rfl
    |1,hj=>exact absurd rfl hj
    |n+2,_=>rfl
   ·cases h
 |n+2=>simp[qam.oS]at h
theorem qam.qfx(x:qam)(j:Nat)(t:TypeId)(e:Ty)(l:List e.D)(h1:qam.oT j=some (t,e))(h2:qam.oG x j e=some l):qam.c x j=.own t e l:=by
 match j with
 |0=>simp[qam.oT]at h1
 |1=>
  injection h1 with h1;injection h1 with h1 h3;subst h1;subst h3;simp only[qam.oG,qaz,qam.c]at h2 ⊢;cases hx:x.args with
  |own l'=>rw[hx]at h2;injection h2 with h2;subst h2;rfl
  |fz l'=>rw[hx]at h2;cases h2
 |n+2=>simp[qam.oT]at h1
theorem qam.qkd(x:qam)(j:Nat)(e:Ty)(l:List e.D)(h1:qam.fT j=some e)(h2:qam.fG x j e=some l):qam.c x j=.ev (.fz e l):=by
 match j with
 |0=>simp[qam.fT]at h1
 |1=>
  injection h1 with h1;subst h1;simp only[qam.fG,qaz,qam.c]at h2 ⊢;cases hx:x.args with
  |fz l'=>rw[hx]at h2;injection h2 with h2;subst h2;rfl
  |own l'=>rw[hx]at h2;cases h2
 |n+2=>simp[qam.fT]at h1
theorem qam.same(x:qam)(j:Nat)(t:TypeId)(e:Ty)(l:List e.D)(y:qam)(t0:TypeId)(e0:Ty)(l0:List e0.D)(h:qam.oS x j t e l=some y)(hc:qam.c x j=.own t0 e0 l0):∃l1,qam.c x j=.own t e l1:=by
 match j with
 |0=>simp[qam.oS]at h
 |1=>
  simp only[qam.oS]at h;cases hb:Nat.beq t 3 with
  |false=>rw[hb]at h;cases h
  |true=>
   rw[hb]at h;obtain rfl:=zi6 hb;simp only[cond_true]at h;split at h
   ·rename_i a ha;obtain⟨rfl,_⟩:=qa2 ha;simp only[qam.c]at hc ⊢;cases hx:x.args with
    |own l1=>exact⟨l1,rfl⟩
    |fz l1=>rw[hx]at hc;cases hc
   ·cases h
 |n+2=>simp[qam.oS]at h
theorem qam.qh6(j:Nat)(t:TypeId)(e:Ty)(l:List e.D)(h:qam.c qam.z j=.own t e l):l=[]:=by
 match j with
 |0|1=>cases h
 |n+2=>cases h
theorem qam.qd4(x:qam)(j:Nat)(u:EV)(h:qam.c x j=.ev u):u.dat=true:=by
 match j with
 |0=>injection h with h;subst h;rfl
 |1=>
  simp only[qam.c]at h;cases hx:x.args<;>rw[hx]at h
  ·cases h
  ·injection h with h;subst h;rfl
 |n+2=>injection h with h;subst h;rfl
def qas.c(x:qas):Nat->Cell
 |0=>.ev (.i .i64 (x.kind))
 |1=>.ev (.i .i64 (x.cond))
 |2=>match x.to with
  |.own l=>.own 51 (.st 9) l
  |.fz l=>.ev (.fz (.st 1) l)
 |3=>match x.qax with
  |.own l=>.own 3 (.int .i64) l
  |.fz l=>.ev (.fz (.int .i64) l)
 |_=>.ev .un
def qas.s(x:qas)(j:Nat)(v:EV):Option qas:=match j with
 |0=>match qci (.int .i64) v with
  |some y=>some { x with kind:=y }
  |none=>none
 |1=>match qci (.int .i64) v with
  |some y=>some { x with cond:=y }
  |none=>none
 |_=>none
def qas.oS(x:qas)(j:Nat)(t:TypeId)(e:Ty)(l:List e.D):Option qas:=match j with
 | 2=>bif Nat.beq t 51 then(match qbq List e (.st 9) l with
  |some y=>some { x with to:=.own y }
  | none=>none)else none
 | 3=>bif Nat.beq t 3 then(match qbq List e (.int .i64) l with
  |some y=>some { x with qax:=.own y }
  | none=>none)else none
 |_=>none
def qas.k(x:qas)(j:Nat)(t:TypeId)(e:Ty)(l:List e.D):Option qas:=match qas.c x j with
 |.own _ _ _=>qas.oS x j t e l
 |.ev _=>none
def qas.oT:Nat->Option (TypeId×Ty)
 |2=>some (51,(.st 9))
 |3=>some (3,(.int .i64))
 |_=>none
def qas.fT:Nat->Option Ty
 |2=>some (.st 1)
 |3=>some (.int .i64)
 |_=>none
def qas.oG(x:qas)(j:Nat)(e:Ty):Option (List e.D):=match j with
 | 2=>(match qbq (fun X=>Option (List X)) (.st 9) e (Sp.qgx x.to)with
  |some o=>o
  | none=>none)
 | 3=>(match qbq (fun X=>Option (List X)) (.int .i64) e (Sp.qgx x.qax)with
  |some o=>o
  | none=>none)
 |_=>none
def qas.fG(x:qas)(j:Nat)(e:Ty):Option (List e.D):=match j with
 | 2=>(match qbq (fun X=>Option (List X)) (.st 1) e (Sp.qsp x.to)with
  |some o=>o
  | none=>none)
 | 3=>(match qbq (fun X=>Option (List X)) (.int .i64) e (Sp.qsp x.qax)with
  |some o=>o
  | none=>none)
 |_=>none
theorem qas.qgv(x:qas)(j:Nat)(v:EV)(y:qas)(h:qas.s x j v=some y):(∃u0,qas.c x j=.ev u0)/\(∃u,qas.c y j=.ev u/\∀len,Wk (toV len v) (toV len u))/\∀j',j'≠j->qas.c y j'=qas.c x j':=by
 match j with
 |0=>
  simp only[qas.s]at h;split at h
  ·rename_i a ha;injection h with h;subst h;refine⟨⟨_,rfl⟩,⟨_,rfl,qan ha⟩,fun j' hj=>?_⟩
   match j',hj with
   |0,hj=>exact absurd rfl hj
   |1,hj|2,hj|3,hj=>exact rfl
   |n+4,_=>rfl
  ·cases h
 |1=>
  simp only[qas.s]at h;split at h
  ·rename_i a ha;injection h with h;subst h;refine⟨⟨_,rfl⟩,⟨_,rfl,qan ha⟩,fun j' hj=>?_⟩
   match j',hj with
   |0,hj=>exact rfl
   |1,hj=>exact absurd rfl hj
   |2,hj|3,hj=>exact rfl
   |n+4,_=>rfl
  ·cases h
 |2=>simp[qas.s]at h
 |3=>simp[qas.s]at h
 |n+4=>simp[qas.s]at h
theorem qas.qfw(x:qas)(j:Nat)(t:TypeId)(e:Ty)(l:List e.D)(y:qas)(h:qas.oS x j t e l=some y):qas.c y j=.own t e l/\∀j',j'≠j->qas.c y j'=qas.c x j':=by
 match j with
 |0=>simp[qas.oS]at h
 |1=>simp[qas.oS]at h
 |2=>
  simp only[qas.oS]at h;cases hb:Nat.beq t 51 with
  |false=>rw[hb]at h;cases h
  |true=>
   rw[hb]at h;obtain rfl:=zi6 hb;simp only[cond_true]at h;split at h
   ·rename_i a ha;injection h with h;subst h;obtain⟨rfl,ha⟩:=qa2 ha;obtain rfl:=eq_of_heq ha;refine⟨rfl,fun j' hj=>?_⟩
    match j',hj with
    |0,hj|1,hj=>exact rfl
    |2,hj=>exact absurd rfl hj
    |3,hj=>exact rfl
    |n+4,_=>rfl
   ·cases h
 |3=>
  simp only[qas.oS]at h;cases hb:Nat.beq t 3 with
  |false=>rw[hb]at h;cases h
  |true=>
   rw[hb]at h;obtain rfl:=zi6 hb;simp only[cond_true]at h;split at h
   ·rename_i a ha;injection h with h;subst h;obtain⟨rfl,ha⟩:=qa2 ha;obtain rfl:=eq_of_heq ha;refine⟨rfl,fun j' hj=>?_⟩
    match j',hj with
    |0,hj|1,hj|2,hj=>exact rfl
    |3,hj=>exact absurd rfl hj
    |n+4,_=>rfl
   ·cases h
 |n+4=>simp[qas.oS]at h
theorem qas.qfx(x:qas)(j:Nat)(t:TypeId)(e:Ty)(l:List e.D)(h1:qas.oT j=some (t,e))(h2:qas.oG x j e=some l):qas.c x j=.own t e l:=by
 match j with
 |0=>simp[qas.oT]at h1
 |1=>simp[qas.oT]at h1
 |2=>
  injection h1 with h1;injection h1 with h1 h3;subst h1;subst h3;simp only[qas.oG,qaz,qas.c]at h2 ⊢;cases hx:x.to with
  |own l'=>rw[hx]at h2;injection h2 with h2;subst h2;rfl
  |fz l'=>rw[hx]at h2;cases h2
 |3=>
  injection h1 with h1;injection h1 with h1 h3;subst h1;subst h3;simp only[qas.oG,qaz,qas.c]at h2 ⊢;cases hx:x.qax with
  |own l'=>rw[hx]at h2;injection h2 with h2;subst h2;rfl
  |fz l'=>rw[hx]at h2;cases h2
 |n+4=>simp[qas.oT]at h1
theorem qas.qkd(x:qas)(j:Nat)(e:Ty)(l:List e.D)(h1:qas.fT j=some e)(h2:qas.fG x j e=some l):qas.c x j=.ev (.fz e l):=by
 match j with
 |0=>simp[qas.fT]at h1
 |1=>simp[qas.fT]at h1
 |2=>
  injection h1 with h1;subst h1;simp only[qas.fG,qaz,qas.c]at h2 ⊢;cases hx:x.to with
  |fz l'=>rw[hx]at h2;injection h2 with h2;subst h2;rfl
  |own l'=>rw[hx]at h2;cases h2
 |3=>
  injection h1 with h1;subst h1;simp only[qas.fG,qaz,qas.c]at h2 ⊢;cases hx:x.qax with
  |fz l'=>rw[hx]at h2;injection h2 with h2;subst h2;rfl
  |own l'=>rw[hx]at h2;cases h2
 |n+4=>simp[qas.fT]at h1
theorem qas.same(x:qas)(j:Nat)(t:TypeId)(e:Ty)(l:List e.D)(y:qas)(t0:TypeId)(e0:Ty)(l0:List e0.D)(h:qas.oS x j t e l=some y)(hc:qas.c x j=.own t0 e0 l0):∃l1,qas.c x j=.own t e l1:=by
 match j with
 |0=>simp[qas.oS]at h
 |1=>simp[qas.oS]at h
 |2=>
  simp only[qas.oS]at h;cases hb:Nat.beq t 51 with
  |false=>rw[hb]at h;cases h
  |true=>
   rw[hb]at h;obtain rfl:=zi6 hb;simp only[cond_true]at h;split at h
   ·rename_i a ha;obtain⟨rfl,_⟩:=qa2 ha;simp only[qas.c]at hc ⊢;cases hx:x.to with
    |own l1=>exact⟨l1,rfl⟩
    |fz l1=>rw[hx]at hc;cases hc
   ·cases h
 |3=>
  simp only[qas.oS]at h;cases hb:Nat.beq t 3 with
  |false=>rw[hb]at h;cases h
  |true=>
   rw[hb]at h;obtain rfl:=zi6 hb;simp only[cond_true]at h;split at h
   ·rename_i a ha;obtain⟨rfl,_⟩:=qa2 ha;simp only[qas.c]at hc ⊢;cases hx:x.qax with
    |own l1=>exact⟨l1,rfl⟩
    |fz l1=>rw[hx]at hc;cases hc
   ·cases h
 |n+4=>simp[qas.oS]at h
theorem qas.qh6(j:Nat)(t:TypeId)(e:Ty)(l:List e.D)(h:qas.c qas.z j=.own t e l):l=[]:=by
 match j with
 |0|1|2|3=>cases h
 |n+4=>cases h
theorem qas.qd4(x:qas)(j:Nat)(u:EV)(h:qas.c x j=.ev u):u.dat=true:=by
 match j with
 |0|1=>injection h with h;subst h;rfl
 |2=>
  simp only[qas.c]at h;cases hx:x.to<;>rw[hx]at h
  ·cases h
  ·injection h with h;subst h;rfl
 |3=>
  simp only[qas.c]at h;cases hx:x.qax<;>rw[hx]at h
  ·cases h
  ·injection h with h;subst h;rfl
 |n+4=>injection h with h;subst h;rfl
def qab.c(x:qab):Nat->Cell
 |0=>match x.params with
  |.own l=>.own 3 (.int .i64) l
  |.fz l=>.ev (.fz (.int .i64) l)
 |1=>match x.insts with
  |.own l=>.own 46 (.st 8) l
  |.fz l=>.ev (.fz (.st 0) l)
 |2=>.ev (.i .i64 (x.term.kind))
 |3=>.ev (.i .i64 (x.term.cond))
 |4=>match x.term.to with
  |.own l=>.own 51 (.st 9) l
  |.fz l=>.ev (.fz (.st 1) l)
 |5=>match x.term.qax with
  |.own l=>.own 3 (.int .i64) l
  |.fz l=>.ev (.fz (.int .i64) l)
 |6=>.ev (.i .i64 (x.qar))
 |7=>.ev (.i .i64 (x.qa9))
 |8=>.ev (.i .i64 (x.line))
 |_=>.ev .un
def qab.s(x:qab)(j:Nat)(v:EV):Option qab:=match j with
 |2=>match qci (.int .i64) v with
  |some y=>some { x with term:={ x.term with kind:=y } }
  |none=>none
 |3=>match qci (.int .i64) v with
  |some y=>some { x with term:={ x.term with cond:=y } }
  |none=>none
 |6=>match qci (.int .i64) v with
  |some y=>some { x with qar:=y }
  |none=>none
 |7=>match qci (.int .i64) v with
  |some y=>some { x with qa9:=y }
  |none=>none
 |8=>match qci (.int .i64) v with
  |some y=>some { x with line:=y }
  |none=>none
 |_=>none
def qab.oS(x:qab)(j:Nat)(t:TypeId)(e:Ty)(l:List e.D):Option qab:=match j with
 | 0=>bif Nat.beq t 3 then(match qbq List e (.int .i64) l with
  |some y=>some { x with params:=.own y }
  | none=>none)else none
 | 1=>bif Nat.beq t 46 then(match qbq List e (.st 8) l with
  |some y=>some { x with insts:=.own y }
  | none=>none)else none
 | 4=>bif Nat.beq t 51 then(match qbq List e (.st 9) l with
  |some y=>some { x with term:={ x.term with to:=.own y } }
  | none=>none)else none
 | 5=>bif Nat.beq t 3 then(match qbq List e (.int .i64) l with
  |some y=>some { x with term:={ x.term with qax:=.own y } }
  | none=>none)else none
 |_=>none
def qab.k(x:qab)(j:Nat)(t:TypeId)(e:Ty)(l:List e.D):Option qab:=match qab.c x j with
 |.own _ _ _=>qab.oS x j t e l
 |.ev _=>none
def qab.oT:Nat->Option (TypeId×Ty)
 |0=>some (3,(.int .i64))
 |1=>some (46,(.st 8))
 |4=>some (51,(.st 9))
 |5=>some (3,(.int .i64))
 |_=>none
def qab.fT:Nat->Option Ty
 |0=>some (.int .i64)
 |1=>some (.st 0)
 |4=>some (.st 1)
 |5=>some (.int .i64)
 |_=>none
def qab.oG(x:qab)(j:Nat)(e:Ty):Option (List e.D):=match j with
 | 0=>(match qbq (fun X=>Option (List X)) (.int .i64) e (Sp.qgx x.params)with
  |some o=>o
  | none=>none)
 | 1=>(match qbq (fun X=>Option (List X)) (.st 8) e (Sp.qgx x.insts)with
  |some o=>o
  | none=>none)
 | 4=>(match qbq (fun X=>Option (List X)) (.st 9) e (Sp.qgx x.term.to)with
  |some o=>o
  | none=>none)
 | 5=>(match qbq (fun X=>Option (List X)) (.int .i64) e (Sp.qgx x.term.qax)with
  |some o=>o
  | none=>none)
 |_=>none
def qab.fG(x:qab)(j:Nat)(e:Ty):Option (List e.D):=match j with
 | 0=>(match qbq (fun X=>Option (List X)) (.int .i64) e (Sp.qsp x.params)with
  |some o=>o
  | none=>none)
 | 1=>(match qbq (fun X=>Option (List X)) (.st 0) e (Sp.qsp x.insts)with
  |some o=>o
  | none=>none)
 | 4=>(match qbq (fun X=>Option (List X)) (.st 1) e (Sp.qsp x.term.to)with
  |some o=>o
  | none=>none)
 | 5=>(match qbq (fun X=>Option (List X)) (.int .i64) e (Sp.qsp x.term.qax)with
  |some o=>o
  | none=>none)
 |_=>none
theorem qab.qgv(x:qab)(j:Nat)(v:EV)(y:qab)(h:qab.s x j v=some y):(∃u0,qab.c x j=.ev u0)/\(∃u,qab.c y j=.ev u/\∀len,Wk (toV len v) (toV len u))/\∀j',j'≠j->qab.c y j'=qab.c x j':=by
 match j with
 |0=>simp[qab.s]at h
 |1=>simp[qab.s]at h
 |2=>
  simp only[qab.s]at h;split at h
  ·rename_i a ha;injection h with h;subst h;refine⟨⟨_,rfl⟩,⟨_,rfl,qan ha⟩,fun j' hj=>?_⟩
   match j',hj with
   |0,hj|1,hj=>exact rfl
   |2,hj=>exact absurd rfl hj
   |3,hj|4,hj|5,hj|6,hj|7,hj|8,hj=>exact rfl
   |n+9,_=>rfl
  ·cases h
 |3=>
  simp only[qab.s]at h;split at h
  ·rename_i a ha;injection h with h;subst h;refine⟨⟨_,rfl⟩,⟨_,rfl,qan ha⟩,fun j' hj=>?_⟩
   match j',hj with
   |0,hj|1,hj|2,hj=>exact rfl
   |3,hj=>exact absurd rfl hj
   |4,hj|5,hj|6,hj|7,hj|8,hj=>exact rfl
   |n+9,_=>rfl
  ·cases h
 |4=>simp[qab.s]at h
 |5=>simp[qab.s]at h
 |6=>
  simp only[qab.s]at h;split at h
  ·rename_i a ha;injection h with h;subst h;refine⟨⟨_,rfl⟩,⟨_,rfl,qan ha⟩,fun j' hj=>?_⟩
   match j',hj with
   |0,hj|1,hj|2,hj|3,hj|4,hj|5,hj=>exact rfl
   |6,hj=>exact absurd rfl hj
   |7,hj|8,hj=>exact rfl
   |n+9,_=>rfl
  ·cases h
 |7=>
  simp only[qab.s]at h;split at h
  ·rename_i a ha;injection h with h;subst h;refine⟨⟨_,rfl⟩,⟨_,rfl,qan ha⟩,fun j' hj=>?_⟩
   match j',hj with
   |0,hj|1,hj|2,hj|3,hj|4,hj|5,hj|6,hj=>exact rfl
   |7,hj=>exact absurd rfl hj
   |8,hj=>exact rfl
   |n+9,_=>rfl
  ·cases h
 |8=>
  simp only[qab.s]at h;split at h
  ·rename_i a ha;injection h with h;subst h;refine⟨⟨_,rfl⟩,⟨_,rfl,qan ha⟩,fun j' hj=>?_⟩
   match j',hj with
   |0,hj|1,hj|2,hj|3,hj|4,hj|5,hj|6,hj|7,hj=>exact rfl
   |8,hj=>exact absurd rfl hj
   |n+9,_=>rfl
  ·cases h
 |n+9=>simp[qab.s]at h
theorem qab.qfw(x:qab)(j:Nat)(t:TypeId)(e:Ty)(l:List e.D)(y:qab)(h:qab.oS x j t e l=some y):qab.c y j=.own t e l/\∀j',j'≠j->qab.c y j'=qab.c x j':=by
 match j with
 |0=>
  simp only[qab.oS]at h;cases hb:Nat.beq t 3 with
  |false=>rw[hb]at h;cases h
  |true=>
   rw[hb]at h;obtain rfl:=zi6 hb;simp only[cond_true]at h;split at h
   ·rename_i a ha;injection h with h;subst h;obtain⟨rfl,ha⟩:=qa2 ha;obtain rfl:=eq_of_heq ha;refine⟨rfl,fun j' hj=>?_⟩
    match j',hj with
    |0,hj=>exact absurd rfl hj
    |1,hj|2,hj|3,hj|4,hj|5,hj|6,hj|7,hj|8,hj=>exact rfl
    |n+9,_=>rfl
   ·cases h
 |1=>
  simp only[qab.oS]at h;cases hb:Nat.beq t 46 with
  |false=>rw[hb]at h;cases h
  |true=>
   rw[hb]at h;obtain rfl:=zi6 hb;simp only[cond_true]at h;split at h
   ·rename_i a ha;injection h with h;subst h;obtain⟨rfl,ha⟩:=qa2 ha;obtain rfl:=eq_of_heq ha;refine⟨rfl,fun j' hj=>?_⟩
    match j',hj with
    |0,hj=>exact rfl
    |1,hj=>exact absurd rfl hj
    |2,hj|3,hj|4,hj|5,hj|6,hj|7,hj|8,hj=>exact rfl
    |n+9,_=>rfl
   ·cases h
 |2=>simp[qab.oS]at h
 |3=>simp[qab.oS]at h
 |4=>
  simp only[qab.oS]at h;cases hb:Nat.beq t 51 with
  |false=>rw[hb]at h;cases h
  |true=>
   rw[hb]at h;obtain rfl:=zi6 hb;simp only[cond_true]at h;split at h
   ·rename_i a ha;injection h with h;subst h;obtain⟨rfl,ha⟩:=qa2 ha;obtain rfl:=eq_of_heq ha;refine⟨rfl,fun j' hj=>?_⟩
    match j',hj with
    |0,hj|1,hj|2,hj|3,hj=>exact rfl
    |4,hj=>exact absurd rfl hj
    |5,hj|6,hj|7,hj|8,hj=>exact rfl
    |n+9,_=>rfl
   ·cases h
 |5=>
  simp only[qab.oS]at h;cases hb:Nat.beq t 3 with
  |false=>rw[hb]at h;cases h
  |true=>
   rw[hb]at h;obtain rfl:=zi6 hb;simp only[cond_true]at h;split at h
   ·rename_i a ha;injection h with h;subst h;obtain⟨rfl,ha⟩:=qa2 ha;obtain rfl:=eq_of_heq ha;refine⟨rfl,fun j' hj=>?_⟩
    match j',hj with
    |0,hj|1,hj|2,hj|3,hj|4,hj=>exact rfl
    |5,hj=>exact absurd rfl hj
    |6,hj|7,hj|8,hj=>exact rfl
    |n+9,_=>rfl
   ·cases h
 |6=>simp[qab.oS]at h
 |7=>simp[qab.oS]at h
 |8=>simp[qab.oS]at h
 |n+9=>simp[qab.oS]at h
theorem qab.qfx(x:qab)(j:Nat)(t:TypeId)(e:Ty)(l:List e.D)(h1:qab.oT j=some (t,e))(h2:qab.oG x j e=some l):qab.c x j=.own t e l:=by
 match j with
 |0=>
  injection h1 with h1;injection h1 with h1 h3;subst h1;subst h3;simp only[qab.oG,qaz,qab.c]at h2 ⊢;cases hx:x.params with
  |own l'=>rw[hx]at h2;injection h2 with h2;subst h2;rfl
  |fz l'=>rw[hx]at h2;cases h2
 |1=>
  injection h1 with h1;injection h1 with h1 h3;subst h1;subst h3;simp only[qab.oG,qaz,qab.c]at h2 ⊢;cases hx:x.insts with
  |own l'=>rw[hx]at h2;injection h2 with h2;subst h2;rfl
  |fz l'=>rw[hx]at h2;cases h2
 |2=>simp[qab.oT]at h1
 |3=>simp[qab.oT]at h1
 |4=>
  injection h1 with h1;injection h1 with h1 h3;subst h1;subst h3;simp only[qab.oG,qaz,qab.c]at h2 ⊢;cases hx:x.term.to with
  |own l'=>rw[hx]at h2;injection h2 with h2;subst h2;rfl
  |fz l'=>rw[hx]at h2;cases h2
 |5=>
  injection h1 with h1;injection h1 with h1 h3;subst h1;subst h3;simp only[qab.oG,qaz,qab.c]at h2 ⊢;cases hx:x.term.qax with
  |own l'=>rw[hx]at h2;injection h2 with h2;subst h2;rfl
  |fz l'=>rw[hx]at h2;cases h2
 |6=>simp[qab.oT]at h1
 |7=>simp[qab.oT]at h1
 |8=>simp[qab.oT]at h1
 |n+9=>simp[qab.oT]at h1
theorem qab.qkd(x:qab)(j:Nat)(e:Ty)(l:List e.D)(h1:qab.fT j=some e)(h2:qab.fG x j e=some l):qab.c x j=.ev (.fz e l):=by
 match j with
 |0=>
  injection h1 with h1;subst h1;simp only[qab.fG,qaz,qab.c]at h2 ⊢;cases hx:x.params with
  |fz l'=>rw[hx]at h2;injection h2 with h2;subst h2;rfl
  |own l'=>rw[hx]at h2;cases h2
 |1=>
  injection h1 with h1;subst h1;simp only[qab.fG,qaz,qab.c]at h2 ⊢;cases hx:x.insts with
  |fz l'=>rw[hx]at h2;injection h2 with h2;subst h2;rfl
  |own l'=>rw[hx]at h2;cases h2
 |2=>simp[qab.fT]at h1
 |3=>simp[qab.fT]at h1
 |4=>
  injection h1 with h1;subst h1;simp only[qab.fG,qaz,qab.c]at h2 ⊢;cases hx:x.term.to with
  |fz l'=>rw[hx]at h2;injection h2 with h2;subst h2;rfl
  |own l'=>rw[hx]at h2;cases h2
 |5=>
  injection h1 with h1;subst h1;simp only[qab.fG,qaz,qab.c]at h2 ⊢;cases hx:x.term.qax with
  |fz l'=>rw[hx]at h2;injection h2 with h2;subst h2;rfl
  |own l'=>rw[hx]at h2;cases h2
 |6=>simp[qab.fT]at h1
 |7=>simp[qab.fT]at h1
 |8=>simp[qab.fT]at h1
 |n+9=>simp[qab.fT]at h1
theorem qab.same(x:qab)(j:Nat)(t:TypeId)(e:Ty)(l:List e.D)(y:qab)(t0:TypeId)(e0:Ty)(l0:List e0.D)(h:qab.oS x j t e l=some y)(hc:qab.c x j=.own t0 e0 l0):∃l1,qab.c x j=.own t e l1:=by
 match j with
 |0=>
  simp only[qab.oS]at h;cases hb:Nat.beq t 3 with
  |false=>rw[hb]at h;cases h
  |true=>
   rw[hb]at h;obtain rfl:=zi6 hb;simp only[cond_true]at h;split at h
   ·rename_i a ha;obtain⟨rfl,_⟩:=qa2 ha;simp only[qab.c]at hc ⊢;cases hx:x.params with
    |own l1=>exact⟨l1,rfl⟩
    |fz l1=>rw[hx]at hc;cases hc
   ·cases h
 |1=>
  simp only[qab.oS]at h;cases hb:Nat.beq t 46 with
  |false=>rw[hb]at h;cases h
  |true=>
   rw[hb]at h;obtain rfl:=zi6 hb;simp only[cond_true]at h;split at h
   ·rename_i a ha;obtain⟨rfl,_⟩:=qa2 ha;simp only[qab.c]at hc ⊢;cases hx:x.insts with
    |own l1=>exact⟨l1,rfl⟩
    |fz l1=>rw[hx]at hc;cases hc
   ·cases h
 |2=>simp[qab.oS]at h
 |3=>simp[qab.oS]at h
 |4=>
  simp only[qab.oS]at h;cases hb:Nat.beq t 51 with
  |false=>rw[hb]at h;cases h
  |true=>
   rw[hb]at h;obtain rfl:=zi6 hb;simp only[cond_true]at h;split at h
   ·rename_i a ha;obtain⟨rfl,_⟩:=qa2 ha;simp only[qab.c]at hc ⊢;cases hx:x.term.to with
    |own l1=>exact⟨l1,rfl⟩
    |fz l1=>rw[hx]at hc;cases hc
   ·cases h
 |5=>
  simp only[qab.oS]at h;cases hb:Nat.beq t 3 with
  |false=>rw[hb]at h;cases h
  |true=>
   rw[hb]at h;obtain rfl:=zi6 hb;simp only[cond_true]at h;split at h
   ·rename_i a ha;obtain⟨rfl,_⟩:=qa2 ha;simp only[qab.c]at hc ⊢;cases hx:x.term.qax with
    |own l1=>exact⟨l1,rfl⟩
    |fz l1=>rw[hx]at hc;cases hc
   ·cases h
 |6=>simp[qab.oS]at h
 |7=>simp[qab.oS]at h
 |8=>simp[qab.oS]at h
 |n+9=>simp[qab.oS]at h
theorem qab.qh6(j:Nat)(t:TypeId)(e:Ty)(l:List e.D)(h:qab.c qab.z j=.own t e l):l=[]:=by
 match j with
 |0|1|2|3|4|5|6|7|8=>cases h
 |n+9=>cases h
theorem qab.qd4(x:qab)(j:Nat)(u:EV)(h:qab.c x j=.ev u):u.dat=true:=by
 match j with
 |0=>
  simp only[qab.c]at h;cases hx:x.params<;>rw[hx]at h
  ·cases h
  ·injection h with h;subst h;rfl
 |1=>
  simp only[qab.c]at h;cases hx:x.insts<;>rw[hx]at h
  ·cases h
  ·injection h with h;subst h;rfl
 |2|3=>injection h with h;subst h;rfl
 |4=>
  simp only[qab.c]at h;cases hx:x.term.to<;>rw[hx]at h
  ·cases h
  ·injection h with h;subst h;rfl
 |5=>
  simp only[qab.c]at h;cases hx:x.term.qax<;>rw[hx]at h
  ·cases h
  ·injection h with h;subst h;rfl
 |6|7|8=>injection h with h;subst h;rfl
 |n+9=>injection h with h;subst h;rfl
def LsI.c(x:LsI):Nat->Cell
 |0=>match x.v with
  |.own l=>.own 3 (.int .i64) l
  |.gone=>.ev .un
 |_=>.ev .un
def LsI.s(x:LsI)(j:Nat)(v:EV):Option LsI:=match j with
 |_=>none
def LsI.oS(x:LsI)(j:Nat)(t:TypeId)(e:Ty)(l:List e.D):Option LsI:=match j with
 | 0=>bif Nat.beq t 3 then(match qbq List e (.int .i64) l with
  |some y=>some { x with v:=.own y }
  | none=>none)else none
 |_=>none
def LsI.k(x:LsI)(j:Nat)(t:TypeId)(e:Ty)(l:List e.D):Option LsI:=match LsI.c x j with
 |.own _ _ _=>LsI.oS x j t e l
 |.ev _=>none
def LsI.oT:Nat->Option (TypeId×Ty)
 |0=>some (3,(.int .i64))
 |_=>none
def LsI.fT:Nat->Option Ty
 |_=>none
def LsI.oG(x:LsI)(j:Nat)(e:Ty):Option (List e.D):=match j with
 | 0=>(match qbq (fun X=>Option (List X)) (.int .i64) e (Sp.gnL x.v)with
  |some o=>o
  | none=>none)
 |_=>none
def LsI.fG(x:LsI)(j:Nat)(e:Ty):Option (List e.D):=match j with
 |_=>none
theorem LsI.qgv(x:LsI)(j:Nat)(v:EV)(y:LsI)(h:LsI.s x j v=some y):(∃u0,LsI.c x j=.ev u0)/\(∃u,LsI.c y j=.ev u/\∀len,Wk (toV len v) (toV len u))/\∀j',j'≠j->LsI.c y j'=LsI.c x j':=by
 match j with
 |0=>simp[LsI.s]at h
 |n+1=>simp[LsI.s]at h
theorem LsI.qfw(x:LsI)(j:Nat)(t:TypeId)(e:Ty)(l:List e.D)(y:LsI)(h:LsI.oS x j t e l=some y):LsI.c y j=.own t e l/\∀j',j'≠j->LsI.c y j'=LsI.c x j':=by
 match j with
 |0=>
  simp only[LsI.oS]at h;cases hb:Nat.beq t 3 with
  |false=>rw[hb]at h;cases h
  |true=>
   rw[hb]at h;obtain rfl:=zi6 hb;simp only[cond_true]at h;split at h
   ·rename_i a ha;injection h with h;subst h;obtain⟨rfl,ha⟩:=qa2 ha;obtain rfl:=eq_of_heq ha;refine⟨rfl,fun j' hj=>?_⟩
    match j',hj with
    |0,hj=>exact absurd rfl hj
    |n+1,_=>rfl
   ·cases h
 |n+1=>simp[LsI.oS]at h
theorem LsI.qfx(x:LsI)(j:Nat)(t:TypeId)(e:Ty)(l:List e.D)(h1:LsI.oT j=some (t,e))(h2:LsI.oG x j e=some l):LsI.c x j=.own t e l:=by
 match j with
 |0=>
  injection h1 with h1;injection h1 with h1 h3;subst h1;subst h3;simp only[LsI.oG,qaz,LsI.c]at h2 ⊢;cases hx:x.v with
  |own l'=>rw[hx]at h2;injection h2 with h2;subst h2;rfl
  |gone=>rw[hx]at h2;cases h2
 |n+1=>simp[LsI.oT]at h1
theorem LsI.qkd(x:LsI)(j:Nat)(e:Ty)(l:List e.D)(h1:LsI.fT j=some e)(h2:LsI.fG x j e=some l):LsI.c x j=.ev (.fz e l):=by
 match j with
 |0=>simp[LsI.fT]at h1
 |n+1=>simp[LsI.fT]at h1
theorem LsI.same(x:LsI)(j:Nat)(t:TypeId)(e:Ty)(l:List e.D)(y:LsI)(t0:TypeId)(e0:Ty)(l0:List e0.D)(h:LsI.oS x j t e l=some y)(hc:LsI.c x j=.own t0 e0 l0):∃l1,LsI.c x j=.own t e l1:=by
 match j with
 |0=>
  simp only[LsI.oS]at h;cases hb:Nat.beq t 3 with
  |false=>rw[hb]at h;cases h
  |true=>
   rw[hb]at h;obtain rfl:=zi6 hb;simp only[cond_true]at h;split at h
   ·rename_i a ha;obtain⟨rfl,_⟩:=qa2 ha;simp only[LsI.c]at hc ⊢;cases hx:x.v with
    |own l1=>exact⟨l1,rfl⟩
    |gone=>rw[hx]at hc;cases hc
   ·cases h
 |n+1=>simp[LsI.oS]at h
theorem LsI.qh6(j:Nat)(t:TypeId)(e:Ty)(l:List e.D)(h:LsI.c LsI.z j=.own t e l):l=[]:=by
 match j with
 |0=>cases h;rfl
 |n+1=>cases h
theorem LsI.qd4(x:LsI)(j:Nat)(u:EV)(h:LsI.c x j=.ev u):u.dat=true:=by
 match j with
 |0=>
  simp only[LsI.c]at h;cases hx:x.v<;>rw[hx]at h
  ·cases h
  ·injection h with h;subst h;rfl
 |n+1=>injection h with h;subst h;rfl
def qau.c(x:qau):Nat->Cell
 |0=>.ev (.i .i64 (x.kind))
 |1=>.ev (.i .i64 (x.cond))
 |2=>match x.to with
  |.own l=>.own 51 (.st 9) l
  |.fz l=>.ev (.fz (.st 1) l)
  |.gone=>.ev .un
 |3=>match x.qax with
  |.own l=>.own 3 (.int .i64) l
  |.fz l=>.ev (.fz (.int .i64) l)
  |.gone=>.ev .un
 |_=>.ev .un
def qau.s(x:qau)(j:Nat)(v:EV):Option qau:=match j with
 |0=>match qci (.int .i64) v with
  |some y=>some { x with kind:=y }
  |none=>none
 |1=>match qci (.int .i64) v with
  |some y=>some { x with cond:=y }
  |none=>none
 |_=>none
def qau.oS(x:qau)(j:Nat)(t:TypeId)(e:Ty)(l:List e.D):Option qau:=match j with
 | 2=>bif Nat.beq t 51 then(match qbq List e (.st 9) l with
  |some y=>some { x with to:=.own y }
  | none=>none)else none
 | 3=>bif Nat.beq t 3 then(match qbq List e (.int .i64) l with
  |some y=>some { x with qax:=.own y }
  | none=>none)else none
 |_=>none
def qau.k(x:qau)(j:Nat)(t:TypeId)(e:Ty)(l:List e.D):Option qau:=match qau.c x j with
 |.own _ _ _=>qau.oS x j t e l
 |.ev _=>none
def qau.oT:Nat->Option (TypeId×Ty)
 |2=>some (51,(.st 9))
 |3=>some (3,(.int .i64))
 |_=>none
def qau.fT:Nat->Option Ty
 |2=>some (.st 1)
 |3=>some (.int .i64)
 |_=>none
def qau.oG(x:qau)(j:Nat)(e:Ty):Option (List e.D):=match j with
 | 2=>(match qbq (fun X=>Option (List X)) (.st 9) e (Sp.qjt x.to)with
  |some o=>o
  | none=>none)
 | 3=>(match qbq (fun X=>Option (List X)) (.int .i64) e (Sp.qjt x.qax)with
  |some o=>o
  | none=>none)
 |_=>none
def qau.fG(x:qau)(j:Nat)(e:Ty):Option (List e.D):=match j with
 | 2=>(match qbq (fun X=>Option (List X)) (.st 1) e (Sp.zbz x.to)with
  |some o=>o
  | none=>none)
 | 3=>(match qbq (fun X=>Option (List X)) (.int .i64) e (Sp.zbz x.qax)with
  |some o=>o
  | none=>none)
 |_=>none
theorem qau.qgv(x:qau)(j:Nat)(v:EV)(y:qau)(h:qau.s x j v=some y):(∃u0,qau.c x j=.ev u0)/\(∃u,qau.c y j=.ev u/\∀len,Wk (toV len v) (toV len u))/\∀j',j'≠j->qau.c y j'=qau.c x j':=by
 match j with
 |0=>
  simp only[qau.s]at h;split at h
  ·rename_i a ha;injection h with h;subst h;refine⟨⟨_,rfl⟩,⟨_,rfl,qan ha⟩,fun j' hj=>?_⟩
   match j',hj with
   |0,hj=>exact absurd rfl hj
   |1,hj|2,hj|3,hj=>exact rfl
   |n+4,_=>rfl
  ·cases h
 |1=>
  simp only[qau.s]at h;split at h
  ·rename_i a ha;injection h with h;subst h;refine⟨⟨_,rfl⟩,⟨_,rfl,qan ha⟩,fun j' hj=>?_⟩
   match j',hj with
   |0,hj=>exact rfl
   |1,hj=>exact absurd rfl hj
   |2,hj|3,hj=>exact rfl
   |n+4,_=>rfl
  ·cases h
 |2=>simp[qau.s]at h
 |3=>simp[qau.s]at h
 |n+4=>simp[qau.s]at h
theorem qau.qfw(x:qau)(j:Nat)(t:TypeId)(e:Ty)(l:List e.D)(y:qau)(h:qau.oS x j t e l=some y):qau.c y j=.own t e l/\∀j',j'≠j->qau.c y j'=qau.c x j':=by
 match j with
 |0=>simp[qau.oS]at h
 |1=>simp[qau.oS]at h
 |2=>
  simp only[qau.oS]at h;cases hb:Nat.beq t 51 with
  |false=>rw[hb]at h;cases h
  |true=>
   rw[hb]at h;obtain rfl:=zi6 hb;simp only[cond_true]at h;split at h
   ·rename_i a ha;injection h with h;subst h;obtain⟨rfl,ha⟩:=qa2 ha;obtain rfl:=eq_of_heq ha;refine⟨rfl,fun j' hj=>?_⟩
    match j',hj with
    |0,hj|1,hj=>exact rfl
    |2,hj=>exact absurd rfl hj
    |3,hj=>exact rfl
    |n+4,_=>rfl
   ·cases h
 |3=>
  simp only[qau.oS]at h;cases hb:Nat.beq t 3 with
  |false=>rw[hb]at h;cases h
  |true=>
   rw[hb]at h;obtain rfl:=zi6 hb;simp only[cond_true]at h;split at h
   ·rename_i a ha;injection h with h;subst h;obtain⟨rfl,ha⟩:=qa2 ha;obtain rfl:=eq_of_heq ha;refine⟨rfl,fun j' hj=>?_⟩
    match j',hj with
    |0,hj|1,hj|2,hj=>exact rfl
    |3,hj=>exact absurd rfl hj
    |n+4,_=>rfl
   ·cases h
 |n+4=>simp[qau.oS]at h
theorem qau.qfx(x:qau)(j:Nat)(t:TypeId)(e:Ty)(l:List e.D)(h1:qau.oT j=some (t,e))(h2:qau.oG x j e=some l):qau.c x j=.own t e l:=by
 match j with
 |0=>simp[qau.oT]at h1
 |1=>simp[qau.oT]at h1
 |2=>
  injection h1 with h1;injection h1 with h1 h3;subst h1;subst h3;simp only[qau.oG,qaz,qau.c]at h2 ⊢;cases hx:x.to with
  |own l'=>rw[hx]at h2;injection h2 with h2;subst h2;rfl
  |fz l'=>rw[hx]at h2;cases h2
  |gone=>rw[hx]at h2;cases h2
 |3=>
  injection h1 with h1;injection h1 with h1 h3;subst h1;subst h3;simp only[qau.oG,qaz,qau.c]at h2 ⊢;cases hx:x.qax with
  |own l'=>rw[hx]at h2;injection h2 with h2;subst h2;rfl
  |fz l'=>rw[hx]at h2;cases h2
  |gone=>rw[hx]at h2;cases h2
 |n+4=>simp[qau.oT]at h1
theorem qau.qkd(x:qau)(j:Nat)(e:Ty)(l:List e.D)(h1:qau.fT j=some e)(h2:qau.fG x j e=some l):qau.c x j=.ev (.fz e l):=by
 match j with
 |0=>simp[qau.fT]at h1
 |1=>simp[qau.fT]at h1
 |2=>
  injection h1 with h1;subst h1;simp only[qau.fG,qaz,qau.c]at h2 ⊢;cases hx:x.to with
  |fz l'=>rw[hx]at h2;injection h2 with h2;subst h2;rfl
  |own l'=>rw[hx]at h2;cases h2
  |gone=>rw[hx]at h2;cases h2
 |3=>
  injection h1 with h1;subst h1;simp only[qau.fG,qaz,qau.c]at h2 ⊢;cases hx:x.qax with
  |fz l'=>rw[hx]at h2;injection h2 with h2;subst h2;rfl
  |own l'=>rw[hx]at h2;cases h2
  |gone=>rw[hx]at h2;cases h2
 |n+4=>simp[qau.fT]at h1
theorem qau.same(x:qau)(j:Nat)(t:TypeId)(e:Ty)(l:List e.D)(y:qau)(t0:TypeId)(e0:Ty)(l0:List e0.D)(h:qau.oS x j t e l=some y)(hc:qau.c x j=.own t0 e0 l0):∃l1,qau.c x j=.own t e l1:=by
 match j with
 |0=>simp[qau.oS]at h
 |1=>simp[qau.oS]at h
 |2=>
  simp only[qau.oS]at h;cases hb:Nat.beq t 51 with
  |false=>rw[hb]at h;cases h
  |true=>
   rw[hb]at h;obtain rfl:=zi6 hb;simp only[cond_true]at h;split at h
   ·rename_i a ha;obtain⟨rfl,_⟩:=qa2 ha;simp only[qau.c]at hc ⊢;cases hx:x.to with
    |own l1=>exact⟨l1,rfl⟩
    |fz l1=>rw[hx]at hc;cases hc
    |gone=>rw[hx]at hc;cases hc
   ·cases h
 |3=>
  simp only[qau.oS]at h;cases hb:Nat.beq t 3 with
  |false=>rw[hb]at h;cases h
  |true=>
   rw[hb]at h;obtain rfl:=zi6 hb;simp only[cond_true]at h;split at h
   ·rename_i a ha;obtain⟨rfl,_⟩:=qa2 ha;simp only[qau.c]at hc ⊢;cases hx:x.qax with
    |own l1=>exact⟨l1,rfl⟩
    |fz l1=>rw[hx]at hc;cases hc
    |gone=>rw[hx]at hc;cases hc
   ·cases h
 |n+4=>simp[qau.oS]at h
theorem qau.qh6(j:Nat)(t:TypeId)(e:Ty)(l:List e.D)(h:qau.c qau.z j=.own t e l):l=[]:=by
 match j with
 |0|1|2|3=>cases h
 |n+4=>cases h
theorem qau.qd4(x:qau)(j:Nat)(u:EV)(h:qau.c x j=.ev u):u.dat=true:=by
 match j with
 |0|1=>injection h with h;subst h;rfl
 |2=>
  simp only[qau.c]at h;cases hx:x.to<;>rw[hx]at h
  ·cases h
  ·injection h with h;subst h;rfl
  ·injection h with h;subst h;rfl
 |3=>
  simp only[qau.c]at h;cases hx:x.qax<;>rw[hx]at h
  ·cases h
  ·injection h with h;subst h;rfl
  ·injection h with h;subst h;rfl
 |n+4=>injection h with h;subst h;rfl
def qac.c(x:qac):Nat->Cell
 |0=>match x.params with
  |.own l=>.own 3 (.int .i64) l
  |.fz l=>.ev (.fz (.int .i64) l)
  |.gone=>.ev .un
 |1=>match x.insts with
  |.own l=>.own 46 (.st 8) l
  |.fz l=>.ev (.fz (.st 0) l)
  |.gone=>.ev .un
 |2=>.ev (.i .i64 (x.term.kind))
 |3=>.ev (.i .i64 (x.term.cond))
 |4=>match x.term.to with
  |.own l=>.own 51 (.st 9) l
  |.fz l=>.ev (.fz (.st 1) l)
  |.gone=>.ev .un
 |5=>match x.term.qax with
  |.own l=>.own 3 (.int .i64) l
  |.fz l=>.ev (.fz (.int .i64) l)
  |.gone=>.ev .un
 |6=>.ev (.i .i64 (x.qar))
 |7=>.ev (.i .i64 (x.qa9))
 |8=>.ev (.i .i64 (x.line))
 |_=>.ev .un
def qac.s(x:qac)(j:Nat)(v:EV):Option qac:=match j with
 |2=>match qci (.int .i64) v with
  |some y=>some { x with term:={ x.term with kind:=y } }
  |none=>none
 |3=>match qci (.int .i64) v with
  |some y=>some { x with term:={ x.term with cond:=y } }
  |none=>none
 |6=>match qci (.int .i64) v with
  |some y=>some { x with qar:=y }
  |none=>none
 |7=>match qci (.int .i64) v with
  |some y=>some { x with qa9:=y }
  |none=>none
 |8=>match qci (.int .i64) v with
  |some y=>some { x with line:=y }
  |none=>none
 |_=>none
def qac.oS(x:qac)(j:Nat)(t:TypeId)(e:Ty)(l:List e.D):Option qac:=match j with
 | 0=>bif Nat.beq t 3 then(match qbq List e (.int .i64) l with
  |some y=>some { x with params:=.own y }
  | none=>none)else none
 | 1=>bif Nat.beq t 46 then(match qbq List e (.st 8) l with
  |some y=>some { x with insts:=.own y }
  | none=>none)else none
 | 4=>bif Nat.beq t 51 then(match qbq List e (.st 9) l with
  |some y=>some { x with term:={ x.term with to:=.own y } }
  | none=>none)else none
 | 5=>bif Nat.beq t 3 then(match qbq List e (.int .i64) l with
  |some y=>some { x with term:={ x.term with qax:=.own y } }
  | none=>none)else none
 |_=>none
def qac.k(x:qac)(j:Nat)(t:TypeId)(e:Ty)(l:List e.D):Option qac:=match qac.c x j with
 |.own _ _ _=>qac.oS x j t e l
 |.ev _=>none
def qac.oT:Nat->Option (TypeId×Ty)
 |0=>some (3,(.int .i64))
 |1=>some (46,(.st 8))
 |4=>some (51,(.st 9))
 |5=>some (3,(.int .i64))
 |_=>none
def qac.fT:Nat->Option Ty
 |0=>some (.int .i64)
 |1=>some (.st 0)
 |4=>some (.st 1)
 |5=>some (.int .i64)
 |_=>none
def qac.oG(x:qac)(j:Nat)(e:Ty):Option (List e.D):=match j with
 | 0=>(match qbq (fun X=>Option (List X)) (.int .i64) e (Sp.qjt x.params)with
  |some o=>o
  | none=>none)
 | 1=>(match qbq (fun X=>Option (List X)) (.st 8) e (Sp.qjt x.insts)with
  |some o=>o
  | none=>none)
 | 4=>(match qbq (fun X=>Option (List X)) (.st 9) e (Sp.qjt x.term.to)with
  |some o=>o
  | none=>none)
 | 5=>(match qbq (fun X=>Option (List X)) (.int .i64) e (Sp.qjt x.term.qax)with
  |some o=>o
  | none=>none)
 |_=>none
def qac.fG(x:qac)(j:Nat)(e:Ty):Option (List e.D):=match j with
 | 0=>(match qbq (fun X=>Option (List X)) (.int .i64) e (Sp.zbz x.params)with
  |some o=>o
  | none=>none)
 | 1=>(match qbq (fun X=>Option (List X)) (.st 0) e (Sp.zbz x.insts)with
  |some o=>o
  | none=>none)
 | 4=>(match qbq (fun X=>Option (List X)) (.st 1) e (Sp.zbz x.term.to)with
  |some o=>o
  | none=>none)
 | 5=>(match qbq (fun X=>Option (List X)) (.int .i64) e (Sp.zbz x.term.qax)with
  |some o=>o
  | none=>none)
 |_=>none
theorem qac.qgv(x:qac)(j:Nat)(v:EV)(y:qac)(h:qac.s x j v=some y):(∃u0,qac.c x j=.ev u0)/\(∃u,qac.c y j=.ev u/\∀len,Wk (toV len v) (toV len u))/\∀j',j'≠j->qac.c y j'=qac.c x j':=by
 match j with
 |0=>simp[qac.s]at h
 |1=>simp[qac.s]at h
 |2=>
  simp only[qac.s]at h;split at h
  ·rename_i a ha;injection h with h;subst h;refine⟨⟨_,rfl⟩,⟨_,rfl,qan ha⟩,fun j' hj=>?_⟩
   match j',hj with
   |0,hj|1,hj=>exact rfl
   |2,hj=>exact absurd rfl hj
   |3,hj|4,hj|5,hj|6,hj|7,hj|8,hj=>exact rfl
   |n+9,_=>rfl
  ·cases h
 |3=>
  simp only[qac.s]at h;split at h
  ·rename_i a ha;injection h with h;subst h;refine⟨⟨_,rfl⟩,⟨_,rfl,qan ha⟩,fun j' hj=>?_⟩
   match j',hj with
   |0,hj|1,hj|2,hj=>exact rfl
   |3,hj=>exact absurd rfl hj
   |4,hj|5,hj|6,hj|7,hj|8,hj=>exact rfl
   |n+9,_=>rfl
  ·cases h
 |4=>simp[qac.s]at h
 |5=>simp[qac.s]at h
 |6=>
  simp only[qac.s]at h;split at h
  ·rename_i a ha;injection h with h;subst h;refine⟨⟨_,rfl⟩,⟨_,rfl,qan ha⟩,fun j' hj=>?_⟩
   match j',hj with
   |0,hj|1,hj|2,hj|3,hj|4,hj|5,hj=>exact rfl
   |6,hj=>exact absurd rfl hj
   |7,hj|8,hj=>exact rfl
   |n+9,_=>rfl
  ·cases h
 |7=>
  simp only[qac.s]at h;split at h
  ·rename_i a ha;injection h with h;subst h;refine⟨⟨_,rfl⟩,⟨_,rfl,qan ha⟩,fun j' hj=>?_⟩
   match j',hj with
   |0,hj|1,hj|2,hj|3,hj|4,hj|5,hj|6,hj=>exact rfl
   |7,hj=>exact absurd rfl hj
   |8,hj=>exact rfl
   |n+9,_=>rfl
  ·cases h
 |8=>
  simp only[qac.s]at h;split at h
  ·rename_i a ha;injection h with h;subst h;refine⟨⟨_,rfl⟩,⟨_,rfl,qan ha⟩,fun j' hj=>?_⟩
   match j',hj with
   |0,hj|1,hj|2,hj|3,hj|4,hj|5,hj|6,hj|7,hj=>exact rfl
   |8,hj=>exact absurd rfl hj
   |n+9,_=>rfl
  ·cases h
 |n+9=>simp[qac.s]at h
theorem qac.qfw(x:qac)(j:Nat)(t:TypeId)(e:Ty)(l:List e.D)(y:qac)(h:qac.oS x j t e l=some y):qac.c y j=.own t e l/\∀j',j'≠j->qac.c y j'=qac.c x j':=by
 match j with
 |0=>
  simp only[qac.oS]at h;cases hb:Nat.beq t 3 with
  |false=>rw[hb]at h;cases h
  |true=>
   rw[hb]at h;obtain rfl:=zi6 hb;simp only[cond_true]at h;split at h
   ·rename_i a ha;injection h with h;subst h;obtain⟨rfl,ha⟩:=qa2 ha;obtain rfl:=eq_of_heq ha;refine⟨rfl,fun j' hj=>?_⟩
    match j',hj with
    |0,hj=>exact absurd rfl hj
    |1,hj|2,hj|3,hj|4,hj|5,hj|6,hj|7,hj|8,hj=>exact rfl
    |n+9,_=>rfl
   ·cases h
 |1=>
  simp only[qac.oS]at h;cases hb:Nat.beq t 46 with
  |false=>rw[hb]at h;cases h
  |true=>
   rw[hb]at h;obtain rfl:=zi6 hb;simp only[cond_true]at h;split at h
   ·rename_i a ha;injection h with h;subst h;obtain⟨rfl,ha⟩:=qa2 ha;obtain rfl:=eq_of_heq ha;refine⟨rfl,fun j' hj=>?_⟩
    match j',hj with
    |0,hj=>exact rfl
    |1,hj=>exact absurd rfl hj
    |2,hj|3,hj|4,hj|5,hj|6,hj|7,hj|8,hj=>exact rfl
    |n+9,_=>rfl
   ·cases h
 |2=>simp[qac.oS]at h
 |3=>simp[qac.oS]at h
 |4=>
  simp only[qac.oS]at h;cases hb:Nat.beq t 51 with
  |false=>rw[hb]at h;cases h
  |true=>
   rw[hb]at h;obtain rfl:=zi6 hb;simp only[cond_true]at h;split at h
   ·rename_i a ha;injection h with h;subst h;obtain⟨rfl,ha⟩:=qa2 ha;obtain rfl:=eq_of_heq ha;refine⟨rfl,fun j' hj=>?_⟩
    match j',hj with
    |0,hj|1,hj|2,hj|3,hj=>exact rfl
    |4,hj=>exact absurd rfl hj
    |5,hj|6,hj|7,hj|8,hj=>exact rfl
    |n+9,_=>rfl
   ·cases h
 |5=>
  simp only[qac.oS]at h;cases hb:Nat.beq t 3 with
  |false=>rw[hb]at h;cases h
  |true=>
   rw[hb]at h;obtain rfl:=zi6 hb;simp only[cond_true]at h;split at h
   ·rename_i a ha;injection h with h;subst h;obtain⟨rfl,ha⟩:=qa2 ha;obtain rfl:=eq_of_heq ha;refine⟨rfl,fun j' hj=>?_⟩
    match j',hj with
    |0,hj|1,hj|2,hj|3,hj|4,hj=>exact rfl
    |5,hj=>exact absurd rfl hj
    |6,hj|7,hj|8,hj=>exact rfl
    |n+9,_=>rfl
   ·cases h
 |6=>simp[qac.oS]at h
 |7=>simp[qac.oS]at h
 |8=>simp[qac.oS]at h
 |n+9=>simp[qac.oS]at h
theorem qac.qfx(x:qac)(j:Nat)(t:TypeId)(e:Ty)(l:List e.D)(h1:qac.oT j=some (t,e))(h2:qac.oG x j e=some l):qac.c x j=.own t e l:=by
 match j with
 |0=>
  injection h1 with h1;injection h1 with h1 h3;subst h1;subst h3;simp only[qac.oG,qaz,qac.c]at h2 ⊢;cases hx:x.params with
  |own l'=>rw[hx]at h2;injection h2 with h2;subst h2;rfl
  |fz l'=>rw[hx]at h2;cases h2
  |gone=>rw[hx]at h2;cases h2
 |1=>
  injection h1 with h1;injection h1 with h1 h3;subst h1;subst h3;simp only[qac.oG,qaz,qac.c]at h2 ⊢;cases hx:x.insts with
  |own l'=>rw[hx]at h2;injection h2 with h2;subst h2;rfl
  |fz l'=>rw[hx]at h2;cases h2
  |gone=>rw[hx]at h2;cases h2
 |2=>simp[qac.oT]at h1
 |3=>simp[qac.oT]at h1
 |4=>
  injection h1 with h1;injection h1 with h1 h3;subst h1;subst h3;simp only[qac.oG,qaz,qac.c]at h2 ⊢;cases hx:x.term.to with
  |own l'=>rw[hx]at h2;injection h2 with h2;subst h2;rfl
  |fz l'=>rw[hx]at h2;cases h2
  |gone=>rw[hx]at h2;cases h2
 |5=>
  injection h1 with h1;injection h1 with h1 h3;subst h1;subst h3;simp only[qac.oG,qaz,qac.c]at h2 ⊢;cases hx:x.term.qax with
  |own l'=>rw[hx]at h2;injection h2 with h2;subst h2;rfl
  |fz l'=>rw[hx]at h2;cases h2
  |gone=>rw[hx]at h2;cases h2
 |6=>simp[qac.oT]at h1
 |7=>simp[qac.oT]at h1
 |8=>simp[qac.oT]at h1
 |n+9=>simp[qac.oT]at h1
theorem qac.qkd(x:qac)(j:Nat)(e:Ty)(l:List e.D)(h1:qac.fT j=some e)(h2:qac.fG x j e=some l):qac.c x j=.ev (.fz e l):=by
 match j with
 |0=>
  injection h1 with h1;subst h1;simp only[qac.fG,qaz,qac.c]at h2 ⊢;cases hx:x.params with
  |fz l'=>rw[hx]at h2;injection h2 with h2;subst h2;rfl
  |own l'=>rw[hx]at h2;cases h2
  |gone=>rw[hx]at h2;cases h2
 |1=>
  injection h1 with h1;subst h1;simp only[qac.fG,qaz,qac.c]at h2 ⊢;cases hx:x.insts with
  |fz l'=>rw[hx]at h2;injection h2 with h2;subst h2;rfl
  |own l'=>rw[hx]at h2;cases h2
  |gone=>rw[hx]at h2;cases h2
 |2=>simp[qac.fT]at h1
 |3=>simp[qac.fT]at h1
 |4=>
  injection h1 with h1;subst h1;simp only[qac.fG,qaz,qac.c]at h2 ⊢;cases hx:x.term.to with
  |fz l'=>rw[hx]at h2;injection h2 with h2;subst h2;rfl
  |own l'=>rw[hx]at h2;cases h2
  |gone=>rw[hx]at h2;cases h2
 |5=>
  injection h1 with h1;subst h1;simp only[qac.fG,qaz,qac.c]at h2 ⊢;cases hx:x.term.qax with
  |fz l'=>rw[hx]at h2;injection h2 with h2;subst h2;rfl
  |own l'=>rw[hx]at h2;cases h2
  |gone=>rw[hx]at h2;cases h2
 |6=>simp[qac.fT]at h1
 |7=>simp[qac.fT]at h1
 |8=>simp[qac.fT]at h1
 |n+9=>simp[qac.fT]at h1
theorem qac.same(x:qac)(j:Nat)(t:TypeId)(e:Ty)(l:List e.D)(y:qac)(t0:TypeId)(e0:Ty)(l0:List e0.D)(h:qac.oS x j t e l=some y)(hc:qac.c x j=.own t0 e0 l0):∃l1,qac.c x j=.own t e l1:=by
 match j with
 |0=>
  simp only[qac.oS]at h;cases hb:Nat.beq t 3 with
  |false=>rw[hb]at h;cases h
  |true=>
   rw[hb]at h;obtain rfl:=zi6 hb;simp only[cond_true]at h;split at h
   ·rename_i a ha;obtain⟨rfl,_⟩:=qa2 ha;simp only[qac.c]at hc ⊢;cases hx:x.params with
    |own l1=>exact⟨l1,rfl⟩
    |fz l1=>rw[hx]at hc;cases hc
    |gone=>rw[hx]at hc;cases hc
   ·cases h
 |1=>
  simp only[qac.oS]at h;cases hb:Nat.beq t 46 with
  |false=>rw[hb]at h;cases h
  |true=>
   rw[hb]at h;obtain rfl:=zi6 hb;simp only[cond_true]at h;split at h
   ·rename_i a ha;obtain⟨rfl,_⟩:=qa2 ha;simp only[qac.c]at hc ⊢;cases hx:x.insts with
    |own l1=>exact⟨l1,rfl⟩
    |fz l1=>rw[hx]at hc;cases hc
    |gone=>rw[hx]at hc;cases hc
   ·cases h
 |2=>simp[qac.oS]at h
 |3=>simp[qac.oS]at h
 |4=>
  simp only[qac.oS]at h;cases hb:Nat.beq t 51 with
  |false=>rw[hb]at h;cases h
  |true=>
   rw[hb]at h;obtain rfl:=zi6 hb;simp only[cond_true]at h;split at h
   ·rename_i a ha;obtain⟨rfl,_⟩:=qa2 ha;simp only[qac.c]at hc ⊢;cases hx:x.term.to with
    |own l1=>exact⟨l1,rfl⟩
    |fz l1=>rw[hx]at hc;cases hc
    |gone=>rw[hx]at hc;cases hc
   ·cases h
 |5=>
  simp only[qac.oS]at h;cases hb:Nat.beq t 3 with
  |false=>rw[hb]at h;cases h
  |true=>
   rw[hb]at h;obtain rfl:=zi6 hb;simp only[cond_true]at h;split at h
   ·rename_i a ha;obtain⟨rfl,_⟩:=qa2 ha;simp only[qac.c]at hc ⊢;cases hx:x.term.qax with
    |own l1=>exact⟨l1,rfl⟩
    |fz l1=>rw[hx]at hc;cases hc
    |gone=>rw[hx]at hc;cases hc
   ·cases h
 |6=>simp[qac.oS]at h
 |7=>simp[qac.oS]at h
 |8=>simp[qac.oS]at h
 |n+9=>simp[qac.oS]at h
theorem qac.qh6(j:Nat)(t:TypeId)(e:Ty)(l:List e.D)(h:qac.c qac.z j=.own t e l):l=[]:=by
 match j with
 |0|1|2|3|4|5|6|7|8=>cases h
 |n+9=>cases h
theorem qac.qd4(x:qac)(j:Nat)(u:EV)(h:qac.c x j=.ev u):u.dat=true:=by
 match j with
 |0=>
  simp only[qac.c]at h;cases hx:x.params<;>rw[hx]at h
  ·cases h
  ·injection h with h;subst h;rfl
  ·injection h with h;subst h;rfl
 |1=>
  simp only[qac.c]at h;cases hx:x.insts<;>rw[hx]at h
  ·cases h
  ·injection h with h;subst h;rfl
  ·injection h with h;subst h;rfl
 |2|3=>injection h with h;subst h;rfl
 |4=>
  simp only[qac.c]at h;cases hx:x.term.to<;>rw[hx]at h
  ·cases h
  ·injection h with h;subst h;rfl
  ·injection h with h;subst h;rfl
 |5=>
  simp only[qac.c]at h;cases hx:x.term.qax<;>rw[hx]at h
  ·cases h
  ·injection h with h;subst h;rfl
  ·injection h with h;subst h;rfl
 |6|7|8=>injection h with h;subst h;rfl
 |n+9=>injection h with h;subst h;rfl
def qai.gS(x:qai)(j:Nat):Option qai:=match j with
 |_=>none
theorem qai.qka(x:qai)(j:Nat)(y:qai)(h:qai.gS x j=some y):qai.c y j=.ev .un/\∀j',j'≠j->qai.c y j'=qai.c x j':=by
 match j with
 |0=>simp[qai.gS]at h
 |1=>simp[qai.gS]at h
 |2=>simp[qai.gS]at h
 |3=>simp[qai.gS]at h
 |4=>simp[qai.gS]at h
 |n+5=>simp[qai.gS]at h
def qam.gS(x:qam)(j:Nat):Option qam:=match j with
 |_=>none
theorem qam.qka(x:qam)(j:Nat)(y:qam)(h:qam.gS x j=some y):qam.c y j=.ev .un/\∀j',j'≠j->qam.c y j'=qam.c x j':=by
 match j with
 |0=>simp[qam.gS]at h
 |1=>simp[qam.gS]at h
 |n+2=>simp[qam.gS]at h
def qas.gS(x:qas)(j:Nat):Option qas:=match j with
 |_=>none
theorem qas.qka(x:qas)(j:Nat)(y:qas)(h:qas.gS x j=some y):qas.c y j=.ev .un/\∀j',j'≠j->qas.c y j'=qas.c x j':=by
 match j with
 |0=>simp[qas.gS]at h
 |1=>simp[qas.gS]at h
 |2=>simp[qas.gS]at h
 |3=>simp[qas.gS]at h
 |n+4=>simp[qas.gS]at h
def qab.gS(x:qab)(j:Nat):Option qab:=match j with
 |_=>none
theorem qab.qka(x:qab)(j:Nat)(y:qab)(h:qab.gS x j=some y):qab.c y j=.ev .un/\∀j',j'≠j->qab.c y j'=qab.c x j':=by
 match j with
 |0=>simp[qab.gS]at h
 |1=>simp[qab.gS]at h
 |2=>simp[qab.gS]at h
 |3=>simp[qab.gS]at h
 |4=>simp[qab.gS]at h
 |5=>simp[qab.gS]at h
 |6=>simp[qab.gS]at h
 |7=>simp[qab.gS]at h
 |8=>simp[qab.gS]at h
 |n+9=>simp[qab.gS]at h
def LsI.gS(x:LsI)(j:Nat):Option LsI:=match j with
 |0=>some { x with v:=.gone }
 |_=>none
theorem LsI.qka(x:LsI)(j:Nat)(y:LsI)(h:LsI.gS x j=some y):LsI.c y j=.ev .un/\∀j',j'≠j->LsI.c y j'=LsI.c x j':=by
 match j with
 |0=>
  injection h with h;subst h;refine⟨rfl,fun j' hj=>?_⟩
  match j',hj with
  |0,hj=>exact absurd rfl hj
  |n+1,_=>rfl
 |n+1=>simp[LsI.gS]at h
def qau.gS(x:qau)(j:Nat):Option qau:=match j with
 |2=>some { x with to:=.gone }
 |3=>some { x with qax:=.gone }
 |_=>none
theorem qau.qka(x:qau)(j:Nat)(y:qau)(h:qau.gS x j=some y):qau.c y j=.ev .un/\∀j',j'≠j->qau.c y j'=qau.c x j':=by
 match j with
 |0=>simp[qau.gS]at h
 |1=>simp[qau.gS]at h
 |2=>
  injection h with h;subst h;refine⟨rfl,fun j' hj=>?_⟩
  match j',hj with
  |0,hj|1,hj=>exact rfl
  |2,hj=>exact absurd rfl hj
  |3,hj=>exact rfl
  |n+4,_=>rfl
 |3=>
  injection h with h;subst h;refine⟨rfl,fun j' hj=>?_⟩
  match j',hj with
  |0,hj|1,hj|2,hj=>exact rfl
  |3,hj=>exact absurd rfl hj
  |n+4,_=>rfl
 |n+4=>simp[qau.gS]at h
def qac.gS(x:qac)(j:Nat):Option qac:=match j with
 |0=>some { x with params:=.gone }
 |1=>some { x with insts:=.gone }
 |4=>some { x with term:={ x.term with to:=.gone } }
 |5=>some { x with term:={ x.term with qax:=.gone } }
 |_=>none
theorem qac.qka(x:qac)(j:Nat)(y:qac)(h:qac.gS x j=some y):qac.c y j=.ev .un/\∀j',j'≠j->qac.c y j'=qac.c x j':=by
 match j with
 |0=>
  injection h with h;subst h;refine⟨rfl,fun j' hj=>?_⟩
  match j',hj with
  |0,hj=>exact absurd rfl hj
  |1,hj|2,hj|3,hj|4,hj|5,hj|6,hj|7,hj|8,hj=>exact rfl
  |n+9,_=>rfl
 |1=>
  injection h with h;subst h;refine⟨rfl,fun j' hj=>?_⟩
  match j',hj with
  |0,hj=>exact rfl
  |1,hj=>exact absurd rfl hj
  |2,hj|3,hj|4,hj|5,hj|6,hj|7,hj|8,hj=>exact rfl
  |n+9,_=>rfl
 |2=>simp[qac.gS]at h
 |3=>simp[qac.gS]at h
 |4=>
  injection h with h;subst h;refine⟨rfl,fun j' hj=>?_⟩
  match j',hj with
  |0,hj|1,hj|2,hj|3,hj=>exact rfl
  |4,hj=>exact absurd rfl hj
  |5,hj|6,hj|7,hj|8,hj=>exact rfl
  |n+9,_=>rfl
 |5=>
  injection h with h;subst h;refine⟨rfl,fun j' hj=>?_⟩
  match j',hj with
  |0,hj|1,hj|2,hj|3,hj|4,hj=>exact rfl
  |5,hj=>exact absurd rfl hj
  |6,hj|7,hj|8,hj=>exact rfl
  |n+9,_=>rfl
 |6=>simp[qac.gS]at h
 |7=>simp[qac.gS]at h
 |8=>simp[qac.gS]at h
 |n+9=>simp[qac.gS]at h
def qai.up(x:qat):qai:=⟨x.op,x.dest,.fz x.args,x.num,x.mem⟩
theorem qai.q31(x:qat):∀c,qai.c (qai.up x) c=.ev (qat.c x c)
 |0|1|2|3|4=>rfl
 |n+5=>rfl
def qam.up(x:Edge):qam:=⟨x.block,.fz x.args⟩
theorem qam.q31(x:Edge):∀c,qam.c (qam.up x) c=.ev (Edge.c x c)
 |0|1=>rfl
 |n+2=>rfl
def qas.up(x:Term):qas:=⟨x.kind,x.cond,.fz x.to,.fz x.qax⟩
theorem qas.q31(x:Term):∀c,qas.c (qas.up x) c=.ev (Term.c x c)
 |0|1|2|3=>rfl
 |n+4=>rfl
def qab.up(x:Block):qab:=⟨.fz x.params,.fz x.insts,⟨x.term.kind,x.term.cond,.fz x.term.to,.fz x.term.qax⟩,x.qar,x.qa9,x.line⟩
theorem qab.q31(x:Block):∀c,qab.c (qab.up x) c=.ev (Block.c x c)
 |0|1|2|3|4|5|6|7|8=>rfl
 |n+9=>rfl
def qac.up(x:qab):qac:=⟨x.params.ox,x.insts.ox,⟨x.term.kind,x.term.cond,x.term.to.ox,x.term.qax.ox⟩,x.qar,x.qa9,x.line⟩
theorem qac.q31(x:qab):∀c,qac.c (qac.up x) c=qab.c x c
 |0=>by
  show(match x.params.ox with | .own l=>Cell.own 3 (.int .i64) l | .fz l=>.ev (.fz (.int .i64) l) | .gone=>.ev .un)=(match x.params with | .own l=>Cell.own 3 (.int .i64) l | .fz l=>.ev (.fz (.int .i64) l))
  cases x.params<;>rfl
 |1=>by
  show(match x.insts.ox with | .own l=>Cell.own 46 (.st 8) l | .fz l=>.ev (.fz (.st 0) l) | .gone=>.ev .un)=(match x.insts with | .own l=>Cell.own 46 (.st 8) l | .fz l=>.ev (.fz (.st 0) l))
  cases x.insts<;>rfl
 |2|3=>rfl
 |4=>by
  show(match x.term.to.ox with | .own l=>Cell.own 51 (.st 9) l | .fz l=>.ev (.fz (.st 1) l) | .gone=>.ev .un)=(match x.term.to with | .own l=>Cell.own 51 (.st 9) l | .fz l=>.ev (.fz (.st 1) l))
  cases x.term.to<;>rfl
 |5=>by
  show(match x.term.qax.ox with | .own l=>Cell.own 3 (.int .i64) l | .fz l=>.ev (.fz (.int .i64) l) | .gone=>.ev .un)=(match x.term.qax with | .own l=>Cell.own 3 (.int .i64) l | .fz l=>.ev (.fz (.int .i64) l))
  cases x.term.qax<;>rfl
 |6|7|8=>rfl
 |n+9=>rfl
def zdg:(i:Nat)->suD i->Nat->Cell
 |0,x=>fun j=>.ev (qat.c x j)
 |1,x=>fun j=>.ev (Edge.c x j)
 |2,x=>fun j=>.ev (Term.c x j)
 |3,x=>fun j=>.ev (Block.c x j)
 |4,x=>fun j=>.ev (Arr.c x j)
 |5,x=>fun j=>.ev (qbd.c x j)
 |6,x=>fun j=>.ev (Fn.c x j)
 |7,x=>fun j=>.ev (Typ.c x j)
 |8,x=>qai.c x
 |9,x=>qam.c x
 |10,x=>qas.c x
 |11,x=>qab.c x
 |12,x=>LsI.c x
 |13,x=>qau.c x
 |14,x=>qac.c x
 |_+15,_=>fun _=>.ev .un
def zgh:(i:Nat)->suD i->Nat->EV->Option (suD i)
 |0,x=>qat.s x
 |1,x=>Edge.s x
 |2,x=>Term.s x
 |3,x=>Block.s x
 |4,x=>Arr.s x
 |5,x=>qbd.s x
 |6,x=>Fn.s x
 |7,x=>Typ.s x
 |8,x=>qai.s x
 |9,x=>qam.s x
 |10,x=>qas.s x
 |11,x=>qab.s x
 |12,x=>LsI.s x
 |13,x=>qau.s x
 |14,x=>qac.s x
 |_+15,_=>fun _ _=>none
def zdf:(i:Nat)->List EV->Option (suD i)
 |0=>qat.m
 |1=>Edge.m
 |2=>Term.m
 |3=>Block.m
 |4=>Arr.m
 |5=>qbd.m
 |6=>Fn.m
 |7=>Typ.m
 |_+8=>fun _=>none
def suK:(i:Nat)->suD i->Nat->(t:TypeId)->(e:Ty)->List e.D->Option (suD i)
 |8,x=>qai.k x
 |9,x=>qam.k x
 |10,x=>qas.k x
 |11,x=>qab.k x
 |12,x=>LsI.k x
 |13,x=>qau.k x
 |14,x=>qac.k x
 |_,_=>fun _ _ _ _=>none
def zil:(i:Nat)->suD i->Nat->(t:TypeId)->(e:Ty)->List e.D->Option (suD i)
 |8,x=>qai.oS x
 |9,x=>qam.oS x
 |10,x=>qas.oS x
 |11,x=>qab.oS x
 |12,x=>LsI.oS x
 |13,x=>qau.oS x
 |14,x=>qac.oS x
 |_,_=>fun _ _ _ _=>none
def zin:(i:Nat)->suD i->Nat->Option (suD i)
 |8,x=>qai.gS x
 |9,x=>qam.gS x
 |10,x=>qas.gS x
 |11,x=>qab.gS x
 |12,x=>LsI.gS x
 |13,x=>qau.gS x
 |14,x=>qac.gS x
 |_,_=>fun _=>none
def zik:Nat->Nat->Option (TypeId×Ty)
 |8=>qai.oT
 |9=>qam.oT
 |10=>qas.oT
 |11=>qab.oT
 |12=>LsI.oT
 |13=>qau.oT
 |14=>qac.oT
 |_=>fun _=>none
def zim:(i:Nat)->suD i->Nat->(e:Ty)->Option (List e.D)
 |8,x=>qai.oG x
 |9,x=>qam.oG x
 |10,x=>qas.oG x
 |11,x=>qab.oG x
 |12,x=>LsI.oG x
 |13,x=>qau.oG x
 |14,x=>qac.oG x
 |_,_=>fun _ _=>none
def zio:Nat->Nat->Option Ty
 |8=>qai.fT
 |9=>qam.fT
 |10=>qas.fT
 |11=>qab.fT
 |12=>LsI.fT
 |13=>qau.fT
 |14=>qac.fT
 |_=>fun _=>none
def zip:(i:Nat)->suD i->Nat->(e:Ty)->Option (List e.D)
 |8,x=>qai.fG x
 |9,x=>qam.fG x
 |10,x=>qas.fG x
 |11,x=>qab.fG x
 |12,x=>LsI.fG x
 |13,x=>qau.fG x
 |14,x=>qac.fG x
 |_,_=>fun _ _=>none
def zh0:(i j:Nat)->Option (suD i->suD j)
 |0,8=>some qai.up
 |1,9=>some qam.up
 |2,10=>some qas.up
 |3,11=>some qab.up
 |11,14=>some qac.up
 |_,_=>none
def zgi:Nat->Bool:=fun i=>Nat.blt i 8
instance:qa3 where
 fro:=zgi
 cell:=zdg
 set:=zgh
 zfc:=suK
 make:=zdf
 zff:=zik
 zfh:=zim
 zfg:=zil
 zhd:=zio
 zhe:=zip
 upF:=zh0
 zan:=zin
 qee:=fun i x j hf=>match i,x,hf with
  |0,x,_=>⟨_,rfl,fun hj len=>qat.qis x len j hj⟩
  |1,x,_=>⟨_,rfl,fun hj len=>Edge.qis x len j hj⟩
  |2,x,_=>⟨_,rfl,fun hj len=>Term.qis x len j hj⟩
  |3,x,_=>⟨_,rfl,fun hj len=>Block.qis x len j hj⟩
  |4,x,_=>⟨_,rfl,fun hj len=>Arr.qis x len j hj⟩
  |5,x,_=>⟨_,rfl,fun hj len=>qbd.qis x len j hj⟩
  |6,x,_=>⟨_,rfl,fun hj len=>Fn.qis x len j hj⟩
  |7,x,_=>⟨_,rfl,fun hj len=>Typ.qis x len j hj⟩
  |n+8,_,hf=>absurd (zi8 hf) (by omega)
 q7u:=fun i x j v y h=>match i,x,y,h with
  |0,x,y,h=>⟨⟨_,rfl⟩,⟨_,rfl,(qat.qgv x j v y h).1⟩,fun j' hj=>congrArg Cell.ev ((qat.qgv x j v y h).2 j' hj)⟩
  |1,x,y,h=>⟨⟨_,rfl⟩,⟨_,rfl,(Edge.qgv x j v y h).1⟩,fun j' hj=>congrArg Cell.ev ((Edge.qgv x j v y h).2 j' hj)⟩
  |2,x,y,h=>⟨⟨_,rfl⟩,⟨_,rfl,(Term.qgv x j v y h).1⟩,fun j' hj=>congrArg Cell.ev ((Term.qgv x j v y h).2 j' hj)⟩
  |3,x,y,h=>⟨⟨_,rfl⟩,⟨_,rfl,(Block.qgv x j v y h).1⟩,fun j' hj=>congrArg Cell.ev ((Block.qgv x j v y h).2 j' hj)⟩
  |4,x,y,h=>⟨⟨_,rfl⟩,⟨_,rfl,(Arr.qgv x j v y h).1⟩,fun j' hj=>congrArg Cell.ev ((Arr.qgv x j v y h).2 j' hj)⟩
  |5,x,y,h=>⟨⟨_,rfl⟩,⟨_,rfl,(qbd.qgv x j v y h).1⟩,fun j' hj=>congrArg Cell.ev ((qbd.qgv x j v y h).2 j' hj)⟩
  |6,x,y,h=>⟨⟨_,rfl⟩,⟨_,rfl,(Fn.qgv x j v y h).1⟩,fun j' hj=>congrArg Cell.ev ((Fn.qgv x j v y h).2 j' hj)⟩
  |7,x,y,h=>⟨⟨_,rfl⟩,⟨_,rfl,(Typ.qgv x j v y h).1⟩,fun j' hj=>congrArg Cell.ev ((Typ.qgv x j v y h).2 j' hj)⟩
  |8,x,y,h=>qai.qgv x j v y h
  |9,x,y,h=>qam.qgv x j v y h
  |10,x,y,h=>qas.qgv x j v y h
  |11,x,y,h=>qab.qgv x j v y h
  |12,x,y,h=>LsI.qgv x j v y h
  |13,x,y,h=>qau.qgv x j v y h
  |14,x,y,h=>qac.qgv x j v y h
  |n+15,_,_,h=>by cases h
 qz2:=fun i x j t e l y h=>match i,x,y,h with
  |0,_,_,h|1,_,_,h|2,_,_,h|3,_,_,h|4,_,_,h|5,_,_,h|6,_,_,h|7,_,_,h=>by cases h
  |8,x,y,h=>by
   have h:qai.k x j t e l=some y:=h;unfold qai.k at h;split at h
   ·rename_i t0 e0 l0 hc;obtain⟨k1,k2⟩:=qai.qfw x j t e l y h;refine⟨?_,k1,k2⟩;exact qai.same x j t e l y t0 e0 l0 h hc
   ·cases h
  |9,x,y,h=>by
   have h:qam.k x j t e l=some y:=h;unfold qam.k at h;split at h
   ·rename_i t0 e0 l0 hc;obtain⟨k1,k2⟩:=qam.qfw x j t e l y h;refine⟨?_,k1,k2⟩;exact qam.same x j t e l y t0 e0 l0 h hc
   ·cases h
  |10,x,y,h=>by
   have h:qas.k x j t e l=some y:=h;unfold qas.k at h;split at h
   ·rename_i t0 e0 l0 hc;obtain⟨k1,k2⟩:=qas.qfw x j t e l y h;refine⟨?_,k1,k2⟩;exact qas.same x j t e l y t0 e0 l0 h hc
   ·cases h
  |11,x,y,h=>by
   have h:qab.k x j t e l=some y:=h;unfold qab.k at h;split at h
   ·rename_i t0 e0 l0 hc;obtain⟨k1,k2⟩:=qab.qfw x j t e l y h;refine⟨?_,k1,k2⟩;exact qab.same x j t e l y t0 e0 l0 h hc
   ·cases h
  |12,x,y,h=>by
   have h:LsI.k x j t e l=some y:=h;unfold LsI.k at h;split at h
   ·rename_i t0 e0 l0 hc;obtain⟨k1,k2⟩:=LsI.qfw x j t e l y h;refine⟨?_,k1,k2⟩;exact LsI.same x j t e l y t0 e0 l0 h hc
   ·cases h
  |13,x,y,h=>by
   have h:qau.k x j t e l=some y:=h;unfold qau.k at h;split at h
   ·rename_i t0 e0 l0 hc;obtain⟨k1,k2⟩:=qau.qfw x j t e l y h;refine⟨?_,k1,k2⟩;exact qau.same x j t e l y t0 e0 l0 h hc
   ·cases h
  |14,x,y,h=>by
   have h:qac.k x j t e l=some y:=h;unfold qac.k at h;split at h
   ·rename_i t0 e0 l0 hc;obtain⟨k1,k2⟩:=qac.qfw x j t e l y h;refine⟨?_,k1,k2⟩;exact qac.same x j t e l y t0 e0 l0 h hc
   ·cases h
  |n+15,_,_,h=>by cases h
 qw0:=fun i x j u h=>match i,x,h with
  |0,x,h=>by injection h with h;subst h;exact qat.qd4 x j
  |1,x,h=>by injection h with h;subst h;exact Edge.qd4 x j
  |2,x,h=>by injection h with h;subst h;exact Term.qd4 x j
  |3,x,h=>by injection h with h;subst h;exact Block.qd4 x j
  |4,x,h=>by injection h with h;subst h;exact Arr.qd4 x j
  |5,x,h=>by injection h with h;subst h;exact qbd.qd4 x j
  |6,x,h=>by injection h with h;subst h;exact Fn.qd4 x j
  |7,x,h=>by injection h with h;subst h;exact Typ.qd4 x j
  |8,x,h=>qai.qd4 x j u h
  |9,x,h=>qam.qd4 x j u h
  |10,x,h=>qas.qd4 x j u h
  |11,x,h=>qab.qd4 x j u h
  |12,x,h=>LsI.qd4 x j u h
  |13,x,h=>qau.qd4 x j u h
  |14,x,h=>qac.qd4 x j u h
  |n+15,_,h=>by injection h with h;subst h;rfl
 qh6:=fun i j t e l h=>match i,h with
  |0,h|1,h|2,h|3,h|4,h|5,h|6,h|7,h=>by cases h
  |8,h=>qai.qh6 j t e l h
  |9,h=>qam.qh6 j t e l h
  |10,h=>qas.qh6 j t e l h
  |11,h=>qab.qh6 j t e l h
  |12,h=>LsI.qh6 j t e l h
  |13,h=>qau.qh6 j t e l h
  |14,h=>qac.qh6 j t e l h
  |n+15,h=>by cases h
 qp9:=fun i l y h=>match i,y,h with
  |0,y,h=>⟨(qat.qmn l y h).1,fun j hj=>⟨_,rfl,(qat.qmn l y h).2 j hj⟩⟩
  |1,y,h=>⟨(Edge.qmn l y h).1,fun j hj=>⟨_,rfl,(Edge.qmn l y h).2 j hj⟩⟩
  |2,y,h=>⟨(Term.qmn l y h).1,fun j hj=>⟨_,rfl,(Term.qmn l y h).2 j hj⟩⟩
  |3,y,h=>⟨(Block.qmn l y h).1,fun j hj=>⟨_,rfl,(Block.qmn l y h).2 j hj⟩⟩
  |4,y,h=>⟨(Arr.qmn l y h).1,fun j hj=>⟨_,rfl,(Arr.qmn l y h).2 j hj⟩⟩
  |5,y,h=>⟨(qbd.qmn l y h).1,fun j hj=>⟨_,rfl,(qbd.qmn l y h).2 j hj⟩⟩
  |6,y,h=>⟨(Fn.qmn l y h).1,fun j hj=>⟨_,rfl,(Fn.qmn l y h).2 j hj⟩⟩
  |7,y,h=>⟨(Typ.qmn l y h).1,fun j hj=>⟨_,rfl,(Typ.qmn l y h).2 j hj⟩⟩
  |n+8,_,h=>by cases h
 q04:=fun i x j t e l h1 h2=>match i,x,h1,h2 with
  |0,_,h,_|1,_,h,_|2,_,h,_|3,_,h,_|4,_,h,_|5,_,h,_|6,_,h,_|7,_,h,_=>by cases h
  |8,x,h1,h2=>qai.qfx x j t e l h1 h2
  |9,x,h1,h2=>qam.qfx x j t e l h1 h2
  |10,x,h1,h2=>qas.qfx x j t e l h1 h2
  |11,x,h1,h2=>qab.qfx x j t e l h1 h2
  |12,x,h1,h2=>LsI.qfx x j t e l h1 h2
  |13,x,h1,h2=>qau.qfx x j t e l h1 h2
  |14,x,h1,h2=>qac.qfx x j t e l h1 h2
  |n+15,_,h,_=>by cases h
 qwo:=fun i x j y h=>match i,x,y,h with
  |0,_,_,h|1,_,_,h|2,_,_,h|3,_,_,h|4,_,_,h|5,_,_,h|6,_,_,h|7,_,_,h=>by cases h
  |8,x,y,h=>qai.qka x j y h
  |9,x,y,h=>qam.qka x j y h
  |10,x,y,h=>qas.qka x j y h
  |11,x,y,h=>qab.qka x j y h
  |12,x,y,h=>LsI.qka x j y h
  |13,x,y,h=>qau.qka x j y h
  |14,x,y,h=>qac.qka x j y h
  |n+15,_,_,h=>by cases h
 q03:=fun i x j t e l y h=>match i,x,y,h with
  |0,_,_,h|1,_,_,h|2,_,_,h|3,_,_,h|4,_,_,h|5,_,_,h|6,_,_,h|7,_,_,h=>by cases h
  |8,x,y,h=>qai.qfw x j t e l y h
  |9,x,y,h=>qam.qfw x j t e l y h
  |10,x,y,h=>qas.qfw x j t e l y h
  |11,x,y,h=>qab.qfw x j t e l y h
  |12,x,y,h=>LsI.qfw x j t e l y h
  |13,x,y,h=>qau.qfw x j t e l y h
  |14,x,y,h=>qac.qfw x j t e l y h
  |n+15,_,_,h=>by cases h
 q71:=fun i x j t e l0 t' e' l y h1 h2 h3=>match i,x,y,h1,h2,h3 with
  |0,_,_,h,_,_|1,_,_,h,_,_|2,_,_,h,_,_|3,_,_,h,_,_|4,_,_,h,_,_|5,_,_,h,_,_|6,_,_,h,_,_|7,_,_,h,_,_=>by cases h
  |8,x,y,h1,h2,h3=>by
   show qai.k x j t' e' l=some y;unfold qai.k;rw[qai.qfx x j t e l0 h1 h2];exact h3
  |9,x,y,h1,h2,h3=>by
   show qam.k x j t' e' l=some y;unfold qam.k;rw[qam.qfx x j t e l0 h1 h2];exact h3
  |10,x,y,h1,h2,h3=>by
   show qas.k x j t' e' l=some y;unfold qas.k;rw[qas.qfx x j t e l0 h1 h2];exact h3
  |11,x,y,h1,h2,h3=>by
   show qab.k x j t' e' l=some y;unfold qab.k;rw[qab.qfx x j t e l0 h1 h2];exact h3
  |12,x,y,h1,h2,h3=>by
   show LsI.k x j t' e' l=some y;unfold LsI.k;rw[LsI.qfx x j t e l0 h1 h2];exact h3
  |13,x,y,h1,h2,h3=>by
   show qau.k x j t' e' l=some y;unfold qau.k;rw[qau.qfx x j t e l0 h1 h2];exact h3
  |14,x,y,h1,h2,h3=>by
   show qac.k x j t' e' l=some y;unfold qac.k;rw[qac.qfx x j t e l0 h1 h2];exact h3
  |n+15,_,_,h,_,_=>by cases h
 zb6:=fun i j f h=>by
  unfold zh0 at h;split at h
  ·injection h with h;subst h;exact⟨rfl,rfl,qai.q31⟩
  ·injection h with h;subst h;exact⟨rfl,rfl,qam.q31⟩
  ·injection h with h;subst h;exact⟨rfl,rfl,qas.q31⟩
  ·injection h with h;subst h;exact⟨rfl,rfl,qab.q31⟩
  ·injection h with h;subst h;exact⟨rfl,rfl,qac.q31⟩
  ·cases h
 q16:=fun i x j e l h1 h2=>match i,x,h1,h2 with
  |0,_,h,_|1,_,h,_|2,_,h,_|3,_,h,_|4,_,h,_|5,_,h,_|6,_,h,_|7,_,h,_=>by cases h
  |8,x,h1,h2=>qai.qkd x j e l h1 h2
  |9,x,h1,h2=>qam.qkd x j e l h1 h2
  |10,x,h1,h2=>qas.qkd x j e l h1 h2
  |11,x,h1,h2=>qab.qkd x j e l h1 h2
  |12,x,h1,h2=>LsI.qkd x j e l h1 h2
  |13,x,h1,h2=>qau.qkd x j e l h1 h2
  |14,x,h1,h2=>qac.qkd x j e l h1 h2
  |n+15,_,h,_=>by cases h
end Go.Abs
namespace Go.Abs
open Go
def Ow.dat{α β:Type}(g:α->β):Ow α β->List β
 |.own l=>l.map g
 |.fz l=>l
def qai.dat(x:qai):qat:=⟨x.op,x.dest,x.args.dat (fun a=>a),x.num,x.mem⟩
def qam.dat(x:qam):Edge:=⟨x.block,x.args.dat (fun a=>a)⟩
def qas.dat(x:qas):Term:=⟨x.kind,x.cond,x.to.dat qam.dat,x.qax.dat (fun a=>a)⟩
def qab.dat(x:qab):Block:=⟨x.params.dat (fun a=>a),x.insts.dat qai.dat,x.term.dat,x.qar,x.qa9,x.line⟩
theorem qq0:qhr (.int .i64) (.int .i64) (fun a=>a):=qhr.fro rfl
theorem qai.qnf:qhr (.st 8) (.st 0) qai.dat:=qhr.of rfl fun x c hc=>by
 have hc:c<5:=hc;obtain⟨op,dest,args,num,mem⟩:=x
 match c,hc with
 |0,_=>exact .inl ⟨_,rfl,fun len=>qat.qis (qai.dat ⟨op,dest,args,num,mem⟩) len 0 (by decide)⟩
 |1,_=>exact .inl ⟨_,rfl,fun len=>qat.qis (qai.dat ⟨op,dest,args,num,mem⟩) len 1 (by decide)⟩
 |2,_=>cases args with
  |own l=>exact .inr ⟨3,.int .i64,l,.int .i64,fun a=>a,rfl,qq0,rfl⟩
  |fz l=>exact .inl ⟨_,rfl,fun len=>qat.qis (qai.dat ⟨op,dest,.fz l,num,mem⟩) len 2 (by decide)⟩
 |3,_=>exact .inl ⟨_,rfl,fun len=>qat.qis (qai.dat ⟨op,dest,args,num,mem⟩) len 3 (by decide)⟩
 |4,_=>exact .inl ⟨_,rfl,fun len=>qat.qis (qai.dat ⟨op,dest,args,num,mem⟩) len 4 (by decide)⟩
theorem qam.qnf:qhr (.st 9) (.st 1) qam.dat:=qhr.of rfl fun x c hc=>by
 have hc:c<2:=hc;obtain⟨bl,args⟩:=x
 match c,hc with
 |0,_=>exact .inl ⟨_,rfl,fun len=>Edge.qis (qam.dat ⟨bl,args⟩) len 0 (by decide)⟩
 |1,_=>cases args with
  |own l=>exact .inr ⟨3,.int .i64,l,.int .i64,fun a=>a,rfl,qq0,rfl⟩
  |fz l=>exact .inl ⟨_,rfl,fun len=>Edge.qis (qam.dat ⟨bl,.fz l⟩) len 1 (by decide)⟩
theorem qab.qnf:qhr (.st 11) (.st 3) qab.dat:=qhr.of rfl fun x c hc=>by
 have hc:c<9:=hc;obtain⟨ps,is,⟨kind,cond,to,qax⟩,pi,un,li⟩:=x
 match c,hc with
 |0,_=>cases ps with
  |own l=>exact .inr ⟨3,.int .i64,l,.int .i64,fun a=>a,rfl,qq0,rfl⟩
  |fz l=>exact .inl ⟨_,rfl,fun len=>Block.qis (qab.dat ⟨.fz l,is,⟨kind,cond,to,qax⟩,pi,un,li⟩) len 0 (by decide)⟩
 |1,_=>cases is with
  |own l=>exact .inr ⟨46,.st 8,l,.st 0,qai.dat,rfl,qai.qnf,rfl⟩
  |fz l=>exact .inl ⟨_,rfl,fun len=>Block.qis (qab.dat ⟨ps,.fz l,⟨kind,cond,to,qax⟩,pi,un,li⟩) len 1 (by decide)⟩
 |2,_=>exact .inl ⟨_,rfl,fun len=>Block.qis (qab.dat ⟨ps,is,⟨kind,cond,to,qax⟩,pi,un,li⟩) len 2 (by decide)⟩
 |3,_=>exact .inl ⟨_,rfl,fun len=>Block.qis (qab.dat ⟨ps,is,⟨kind,cond,to,qax⟩,pi,un,li⟩) len 3 (by decide)⟩
 |4,_=>cases to with
  |own l=>exact .inr ⟨51,.st 9,l,.st 1,qam.dat,rfl,qam.qnf,rfl⟩
  |fz l=>exact .inl ⟨_,rfl,fun len=>Block.qis (qab.dat ⟨ps,is,⟨kind,cond,.fz l,qax⟩,pi,un,li⟩) len 4 (by decide)⟩
 |5,_=>cases qax with
  |own l=>exact .inr ⟨3,.int .i64,l,.int .i64,fun a=>a,rfl,qq0,rfl⟩
  |fz l=>exact .inl ⟨_,rfl,fun len=>Block.qis (qab.dat ⟨ps,is,⟨kind,cond,to,.fz l⟩,pi,un,li⟩) len 5 (by decide)⟩
 |6,_=>exact .inl ⟨_,rfl,fun len=>Block.qis (qab.dat ⟨ps,is,⟨kind,cond,to,qax⟩,pi,un,li⟩) len 6 (by decide)⟩
 |7,_=>exact .inl ⟨_,rfl,fun len=>Block.qis (qab.dat ⟨ps,is,⟨kind,cond,to,qax⟩,pi,un,li⟩) len 7 (by decide)⟩
 |8,_=>exact .inl ⟨_,rfl,fun len=>Block.qis (qab.dat ⟨ps,is,⟨kind,cond,to,qax⟩,pi,un,li⟩) len 8 (by decide)⟩
def zdl:(i:Nat)->Option (zic i)
 |8=>some ⟨0,qai.dat⟩
 |9=>some ⟨1,qam.dat⟩
 |11=>some ⟨3,qab.dat⟩
 |_=>none
def Sp.dnO{α β:Type}:Ox α β->Option (Ow α β)
 |.own l=>some (.own l)
 |.fz l=>some (.fz l)
 |.gone=>none
theorem qwv{α β:Type}{x:Ox α β}{y:Ow α β}(h:Sp.dnO x=some y):y.ox=x:=by
 cases x with
 |own l=>injection h with h;subst h;rfl
 |fz l=>injection h with h;subst h;rfl
 |gone=>cases h
def qac.dn(x:qac):Option qab:=match Sp.dnO x.params,Sp.dnO x.insts,Sp.dnO x.term.to,Sp.dnO x.term.qax with
 |some ps,some is,some to,some qax=>some ⟨ps,is,⟨x.term.kind,x.term.cond,to,qax⟩,x.qar,x.qa9,x.line⟩
 |_,_,_,_=>none
theorem qac.zhh(x:qac)(y:qab)(h:qac.dn x=some y):qac.up y=x:=by
 unfold qac.dn at h;split at h
 ·rename_i h1 h2 h3 h4;injection h with h;subst h;obtain⟨ps,is,⟨k,c,to,qax⟩,pi,un,li⟩:=x;simp only[qac.up,qwv h1,qwv h2,qwv h3,qwv h4]
 ·cases h
def zh2:(i j:Nat)->Option (SU.D i->Option (SU.D j))
 |14,11=>some qac.dn
 |_,_=>none
instance:qyl where
 d:=zdl
 dn:=zh2
 zet:=fun i j g h=>by
  unfold zh2 at h;split at h
  ·injection h with h;subst h;exact⟨_,rfl,qac.zhh⟩
  ·cases h
 ok:=fun i x h=>by
  unfold zdl at h;split at h
  ·injection h with h;subst h;exact qai.qnf
  ·injection h with h;subst h;exact qam.qnf
  ·injection h with h;subst h;exact qab.qnf
  ·cases h
def zh1:Nat->Bool
 |4|5|7=>true
 |_=>false
instance:FFs where
 st:=zh1
 ok:=fun i h=>by
  unfold zh1 at h;split at h
  ·exact⟨rfl,fun x c hc=>by
    have hc:c<5:=hc
    match c,hc with
    |0,_|1,_|2,_|3,_=>trivial
    | 4,_=>trivial⟩
  ·exact⟨rfl,fun x c hc=>by
    have hc:c<3:=hc
    match c,hc with
    |0,_|1,_=>trivial
    | 2,_=>trivial⟩
  ·exact⟨rfl,fun x c hc=>by
    have hc:c<2:=hc
    match c,hc with
    |0,_=>trivial
    | 1,_=>trivial⟩
  ·cases h
end Go.Abs
