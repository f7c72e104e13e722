/-
Texts of the proof, part 1: A1 A2 A3 A4 A5 A6 D1 A9 Ty O1 A7.
No statement of the program is proved here.
-/
import Derived.Calls
import Derived.Orders
import Derived.Deep.MidRow
import Derived.Laws.OwnMore
import Derived.Laws.MakeOwn
import Derived.Below
import Derived.Laws.Strings
import Derived.IntWalk
import Derived.ChangeArms
import Derived.ChangeShapes
import Derived.SizedLaws
import Derived.Carry
import Derived.WideShapes
import Derived.Test.YtlcholjffgaemaaProg
import Derived.KernelRfl
set_option linter.unusedVariables false
set_option linter.unusedSimpArgs false
namespace Go.Abs
abbrev zgz:=@Bool.and_eq_true
abbrev zg0:=@List.getD_eq_getElem?_getD
abbrev zg1:=@List.length_cons
abbrev zg2:=@Nat.eq_of_beq_eq_true
abbrev zg3:=@Nat.le_refl
abbrev zg4:=@Nat.le_of_ble_eq_true
abbrev zg5:=@List.mem_cons_self
abbrev zg6:=@List.length_append
abbrev zg7:=@List.length_nil
abbrev zg8:=@List.mem_cons_of_mem
abbrev zg9:=@Nat.zero_add
abbrev zha:=@List.length_map
abbrev zhb:=@List.getElem?_eq_getElem
abbrev zhc:=@Nat.beq_refl
abbrev zhd:=@List.length_range
abbrev zhe:=@Int.toNat_natCast
abbrev zhf:=@Nat.not_lt_zero
abbrev zhg:=@List.map_cons
abbrev zhh:=@List.contains_iff_mem
abbrev zhi:=@Option.getD_some
abbrev zhj:=@List.mem_append
abbrev zhk:=@List.mem_map
abbrev zhl:=@Array.getD_eq_getD_getElem?
abbrev zhm:=@List.all_eq_true
abbrev zhn:=@Bool.not_eq_true'
abbrev zho:=@List.mem_append_left
abbrev zhp:=@Array.getElem?_eq_getElem
abbrev zhq:=@List.nodup_append
abbrev zhr:=@List.mem_cons
abbrev zhs:=@Bool.false_eq_true
abbrev zht:=@List.append_nil
abbrev zhu:=@List.nodup_cons
abbrev zhv:=@List.nil_append
abbrev zhw:=@Bool.not_true
abbrev zhx:=@List.map_congr_left
abbrev zhy:=@Nat.le_trans
abbrev zhz:=@Nat.le_of_not_lt
abbrev zh0:=@Bool.or_eq_true
abbrev zh1:=@List.mem_append_right
abbrev zh2:=@Bool.not_false
abbrev zh3:=@Nat.add_zero
abbrev zh4:=@List.getElem_mem
abbrev zh5:=@List.getElem?_map
abbrev zh6:=@Array.getElem?_toList
abbrev zh7:=@List.mem_singleton
abbrev zh8:=@List.foldl_cons
abbrev zh9:=@List.cons_append
abbrev zia:=@List.length_replicate
abbrev zib:=@List.append_assoc
abbrev zic:=@Array.getElem?_eq_some_iff
abbrev zid:=@Nat.lt_of_lt_of_le
abbrev zie:=@Nat.mul_le_mul_right
abbrev zif:=@List.mem_range
abbrev zig:=@List.mem_filter
abbrev zih:=@List.ext_getElem
abbrev zii:=@Option.map_some
abbrev zij:=@Nat.le_of_eq
abbrev zik:=@List.map_nil
abbrev zil:=@Nat.add_comm
abbrev zim:=@Nat.add_mul
abbrev zin:=@List.getElem_range
abbrev zio:=@Nat.lt_irrefl
abbrev zip:=@Bool.true_and
abbrev ziq:=@Bool.and_true
abbrev zir:=@List.mem_flatMap
abbrev zis:=@List.getElem_of_mem
abbrev zit:=@Array.length_toList
abbrev ziu:=@Int.toNat_of_nonneg
abbrev ziv:=@List.getElem_map
abbrev ziw:=@List.getElem?_eq_none
abbrev zix:=@List.map_append
abbrev ziy:=@List.singleton_append
abbrev ziz:=@List.getElem?_append_left
abbrev zi0:=@List.getElem?_eq_some_iff
abbrev zi1:=@Array.getElem?_eq_none
abbrev zi2:=@Array.all_eq_true_iff_forall_mem
abbrev zi3:=@Array.getElem?_setIfInBounds_ne
abbrev zi4:=@List.eq_nil_of_length_eq_zero
abbrev zi5:=@Array.getElem?_append_left
abbrev zi6:=@Array.getElem_mem_toList
abbrev zi7:=@Array.getElem?_setIfInBounds_self_of_lt
open Go
inductive T where
 |any
 |bool (b:Bool)
 |int (k:IntKind) (n:Int)
 |str (s:ByteArray)
 |sl (sz n:Nat) (get:Nat->Nat->T)
 |q4h
 |ifc (t:TypeId) (v:T)
structure Id where
 k:Nat
 p:List Nat
deriving DecidableEq
def qj5:List Nat->List Nat
 |[]=>[]
 |[a]=>[a]
 |a::_::l=>a::qj5 l
def q6o:List Nat->List Nat
 |[]=>[]
 |[_]=>[]
 |_::b::l=>b::q6o l
def q0r:List Nat->List Nat->Bool
 |[],[]=>true
 |a::l,b::m=>bif Nat.beq a b then q0r l m else false
 |_,_=>false
def Id.beq(a b:Id):Bool:=bif Nat.beq a.k b.k then(bif q0r (qj5 a.p) (qj5 b.p)then q0r (q6o a.p) (q6o b.p)else false)else false
theorem qhm:∀ {a b:List Nat},q0r a b=true↔a=b
 |[],[]=>by simp[q0r]
 |[],_::_=>by simp[q0r]
 |_::_,[]=>by simp[q0r]
 |a::l,b::m=>by
  simp only[q0r,List.cons.injEq,<- qhm (a:=l)];cases h:Nat.beq a b with
  |true=>simp[zg2 h]
  |false=>simp;intro e;subst e;simp at h
theorem q6w:∀ {a b:List Nat},qj5 a=qj5 b->q6o a=q6o b->a=b
 |[],[],_,_=>rfl
 |[],[_],h,_=>by simp[qj5]at h
 |[],_::_::_,h,_=>by simp[qj5]at h
 |[_],[],h,_=>by simp[qj5]at h
 |[_],[_],h,_=>by simpa[qj5]using h
 |[_],_::_::_,_,h=>by simp[q6o]at h
 |_::_::_,[],h,_=>by simp[qj5]at h
 |_::_::_,[_],_,h=>by simp[q6o]at h
 |a::b::l,a'::b'::m,h,k=>by
  simp only[qj5,q6o,List.cons.injEq]at h k;rw[h.1,k.1,q6w h.2 k.2]
theorem Id.beq_iff{a b:Id}:Id.beq a b=true↔a=b:=by
 obtain⟨k,p⟩:=a;obtain⟨k',p'⟩:=b;simp only[Id.beq,Id.mk.injEq];cases h1:Nat.beq k k' with
 |false=>simp;intro e;subst e;simp at h1
 |true=>
  cases h2:q0r (qj5 p) (qj5 p')with
  |false=>simp;rintro-e;subst e;rw[qhm.2 rfl]at h2;cases h2
  |true=>
   simp only[cond_true]
   constructor
   ·exact fun h3=>⟨zg2 h1,q6w (qhm.1 h2) (qhm.1 h3)⟩
   ·rintro⟨-,rfl⟩;exact qhm.2 rfl
theorem Id.beq_refl(a:Id):Id.beq a a=true:=Id.beq_iff.2 rfl
inductive V where
 |un
 |und
 |t (x:T)
 |qby
 |qej
 |qek
 |qel
 |ptr (id:Id) (ver r c:Nat)
 |fp (m:Nat) (get:Nat->T)
 |qbq (id:Id) (ver r len:Nat)
 |qcd (id:Id)
 |fn (f:FuncId) (n:Nat) (cap:Nat->V)
 |agg (n:Nat) (get:Nat->V)
 |tup (n:Nat) (get:Nat->V)
inductive qce where
 |i (n:Int)
 |s (b:ByteArray)
deriving DecidableEq
structure qcu where
 elem:TypeId
 sz:Nat
 ver:Nat
 n:Nat
 get:Nat->Nat->V
inductive Slot where
 |qae
 |dead
 |live (o:qcu)
 |mp (str:Bool) (get:qce->Option V)
structure qbe where
 next:Nat
 slot:Id->Slot
 lo:Nat
structure St where
 nt:Nat
 env:Nat->V
 heap:qbe
def LEN:Nat:=281474976710656
def Reads(F:Nat->Prop)(w:World):T->Value->Prop
 |.any,v=>v.oneCell'=true
 |.bool b,v=>v=.bool b
 |.int k n,v=>v=.int k n
 |.str s,v=>v=.string s/\s.size<=9223372036854775807
 |.sl sz n get,v=>∃A cap,v=.slice A n cap/\n<=cap/\n<=LEN /\
   (0<n->∃b o,A=some ⟨b,o,none⟩/\F b/\∀i,i<n->∀j,j<sz->∃c,w.cell? ⟨b,o+(i*sz+j),none⟩=some c/\Reads F w (get i j) c)
 |.q4h,v=>v=.nilIface
 |.ifc t x,v=>∃c,v=.iface t c/\Reads F w x c
theorem Reads.mono{F F':Nat->Prop}{w w':World}(hF:∀b,F b->F' b)(hw:∀b,F b->w'.heap[b]?=w.heap[b]?) :
  ∀(x:T) (v:Value),Reads F w x v->Reads F' w' x v:=by
 intro x
 induction x with
 |any=>exact fun v h=>h
 |bool b=>exact fun v h=>h
 |int k n=>exact fun v h=>h
 |str s=>exact fun v h=>h
 |q4h=>exact fun v h=>h
 |ifc t x ih=>rintro v ⟨c,h1,h2⟩;exact⟨c,h1,ih _ h2⟩
 |sl sz n get ih=>
  rintro v ⟨A,cap,h1,h2,h3,h4⟩
  refine⟨A,cap,h1,h2,h3,fun hn=>?_⟩;obtain⟨b,o,hA,hb,hc⟩:=h4 hn;refine⟨b,o,hA,hF b hb,fun i hi j hj=>?_⟩;obtain⟨c,hc1,hc2⟩:=hc i hi j hj;refine⟨c,?_,ih i j _ hc2⟩;unfold World.cell? at hc1 ⊢;simp only at hc1 ⊢;rw[hw b hb];exact hc1
theorem Reads.plain{F:Nat->Prop}{w:World}{x:T}{v:Value}(h:Reads F w x v):v.oneCell'=true:=by
 cases x with
 |any=>exact h
 |bool b=>obtain rfl:=h;rfl
 |int k n=>obtain rfl:=h;rfl
 |str s=>obtain⟨rfl,_⟩:=h;rfl
 |q4h=>obtain rfl:=h;rfl
 |ifc t x=>obtain⟨c,rfl,_⟩:=h;rfl
 |sl sz n get=>obtain⟨A,cap,rfl,_⟩:=h;rfl
def qay(H:qbe)(M:Id->Option Nat)(F:Nat->Prop)(w:World):V->Value->Prop
 |.un,_=>True
 |.und,v=>v=undef
 |.t x,v=>Reads F w x v
 |.qby,v=>v=.slice none 0 0
 |.qej,v=>v=.pointer none
 |.qek,v=>v=.map none
 |.qel,v=>v=.nilFunc
 |.ptr id ver r c,v=>v.oneCell'=true/\match H.slot id with
   |.qae=>False
   |.live o=>ver<=o.ver/\(ver=o.ver->∃b,M id=some b/\v=.pointer (some ⟨b,r*o.sz+c,none⟩))
   |_=>True
 |.fp m get,v=>∃b o,v=.pointer (some ⟨b,o,none⟩)/\F b/\∀j,j<m->∃c,w.cell? ⟨b,o+j,none⟩=some c/\Reads F w (get j) c
 |.qbq id ver r len,v=>v.oneCell'=true/\match H.slot id with
   |.qae=>False
   | .live o=>ver<=o.ver/\(ver=o.ver->r+len<=o.n/\∃A cap,v=.slice A len cap/\len<=cap /\
     (0<cap->∃b cur,M id=some b/\A=some ⟨b,r*o.sz,none⟩/\w.heap[b]?=some (.cells cur o.elem (0,0))/\r*o.sz+cap*o.sz<=cur.size))
   |_=>True
 |.qcd id,v=>v.oneCell'=true/\match H.slot id with
   |.qae=>False
   |.mp _ _=>∃b,M id=some b/\v=.map (some b)
   |_=>True
 |.fn f n cap,v=>∃cs,v=.func (.func f) #[] cs/\cs.size=n/\∀j,j<n->∃c,cs[j]?=some c/\qay H M F w (cap j) c
 |.agg n get,v=>∃cs,v=.agg cs/\cs.size=n/\∀j,j<n->∃c,cs[j]?=some c/\c.oneCell'=true/\qay H M F w (get j) c
 |.tup n get,v=>∃cs,v=.tuple cs/\cs.size=n/\∀j,j<n->∃c,cs[j]?=some c/\qay H M F w (get j) c
def Ext(H:qbe)(M:Id->Option Nat)(F:Nat->Prop)(w:World)(H':qbe)(ι':Id->Option Nat)(F':Nat->Prop)(w':World):Prop:=
 ∀u v,qay H M F w u v->qay H' ι' F' w' u v
def qf5(id:Id)(H:qbe)(M:Id->Option Nat)(w:World)(H':qbe)(ι':Id->Option Nat)(w':World):Prop:=
 match H.slot id with
 |.qae=>True
 |.dead=>H'.slot id=.dead
 |.mp _ _=>H'.slot id=.dead\/((∃s g,H'.slot id=.mp s g)/\ι' id=M id)
 | .live o=>H'.slot id=.dead\/∃o',H'.slot id=.live o'/\o.ver<=o'.ver/\(o.ver=o'.ver->o'.sz=o.sz/\o'.elem=o.elem/\o.n<=o'.n/\ι' id=M id /\
   ∀b cur,M id=some b->w.heap[b]?=some (.cells cur o.elem (0,0))->∃cur',w'.heap[b]?=some (.cells cur' o.elem (0,0))/\cur'.size=cur.size)
theorem Ext.of{H:qbe}{M:Id->Option Nat}{F:Nat->Prop}{w:World}{H':qbe}{ι':Id->Option Nat}{F':Nat->Prop}{w':World}
  (hF:∀b,F b->F' b) (hw:∀b,F b->w'.heap[b]?=w.heap[b]?) (hs:∀id,qf5 id H M w H' ι' w'):Ext H M F w H' ι' F' w':=by
 intro u
 induction u with
 |un=>exact fun _ _=>trivial
 |und=>exact fun _ h=>h
 |t x=>exact fun v h=>Reads.mono hF hw x v h
 |qby=>exact fun _ h=>h
 |qej=>exact fun _ h=>h
 |qek=>exact fun _ h=>h
 |qel=>exact fun _ h=>h
 |ptr id ver r c=>
  rintro v ⟨h0,h⟩
  have hs:=hs id;refine⟨h0,?_⟩;unfold qf5 at hs;cases hsl:H.slot id with
  |qae=>rw[hsl]at h;exact h.elim
  |dead=>rw[hsl]at hs;simp only at hs;rw[hs];trivial
  |mp s g=>
   rw[hsl]at hs;simp only at hs;rcases hs with hs|⟨⟨s,g,hs⟩,_⟩<;>rw[hs]<;>trivial
  |live o=>
   rw[hsl]at hs h;simp only at hs h;obtain⟨hv,h⟩:=h;rcases hs with hs|⟨o',hs,hle,hk⟩
   ·rw[hs];trivial
   ·rw[hs];refine⟨by omega,fun he=>?_⟩;have he':o.ver=o'.ver:=by omega
    obtain⟨k1,k2,k3,k4,k5⟩:=hk he';obtain⟨b,hb,hv⟩:=h (by omega);exact⟨b,k4.trans hb,by rw[k1];exact hv⟩
 |fp m get=>
  rintro v ⟨b,o,h1,h2,h3⟩
  refine⟨b,o,h1,hF b h2,fun j hj=>?_⟩;obtain⟨c,hc1,hc2⟩:=h3 j hj;refine⟨c,?_,Reads.mono hF hw _ _ hc2⟩;unfold World.cell? at hc1 ⊢;simp only at hc1 ⊢;rw[hw b h2];exact hc1
 |qbq id ver r len=>
  rintro v ⟨h0,h⟩
  have hs:=hs id;refine⟨h0,?_⟩;unfold qf5 at hs;cases hsl:H.slot id with
  |qae=>rw[hsl]at h;exact h.elim
  |dead=>rw[hsl]at hs;simp only at hs;rw[hs];trivial
  |mp s g=>
   rw[hsl]at hs;simp only at hs;rcases hs with hs|⟨⟨s,g,hs⟩,_⟩<;>rw[hs]<;>trivial
  |live o=>
   rw[hsl]at hs h;simp only at hs h;obtain⟨hv,h⟩:=h;rcases hs with hs|⟨o',hs,hle,hk⟩
   ·rw[hs];trivial
   ·rw[hs];refine⟨by omega,fun he=>?_⟩;have he':o.ver=o'.ver:=by omega
    obtain⟨k1,k2,k3,k4,k5⟩:=hk he';obtain⟨hn,A,cap,hv,hlc,hx⟩:=h (by omega);refine⟨by omega,A,cap,hv,hlc,fun hc=>?_⟩;obtain⟨b,cur,hb,hA,hh,hsz⟩:=hx hc;obtain⟨cur',hh',hcs⟩:=k5 b cur hb hh;exact⟨b,cur',k4.trans hb,by rw[k1];exact hA,by rw[k2];exact hh',by rw[k1,hcs];exact hsz⟩
 |qcd id=>
  rintro v ⟨h0,h⟩
  have hs:=hs id;refine⟨h0,?_⟩;unfold qf5 at hs;cases hsl:H.slot id with
  |qae=>rw[hsl]at h;exact h.elim
  |dead=>rw[hsl]at hs;simp only at hs;rw[hs];trivial
  |mp s g=>
   rw[hsl]at hs h;simp only at hs h;rcases hs with hs|⟨⟨s,g,hs⟩,hi⟩
   ·rw[hs];trivial
   ·rw[hs];obtain⟨b,hb,hv⟩:=h;exact⟨b,hi.trans hb,hv⟩
  |live o=>
   rw[hsl]at hs;simp only at hs;rcases hs with hs|⟨o',hs,_⟩<;>rw[hs]<;>trivial
 |fn f n cap ih=>rintro v ⟨cs,h1,h2,h3⟩;exact⟨cs,h1,h2,fun j hj=>by obtain⟨c,a,b⟩:=h3 j hj;exact⟨c,a,ih j _ b⟩⟩
 |agg n get ih=>rintro v ⟨cs,h1,h2,h3⟩;exact⟨cs,h1,h2,fun j hj=>by obtain⟨c,a,p,b⟩:=h3 j hj;exact⟨c,a,p,ih j _ b⟩⟩
 |tup n get ih=>rintro v ⟨cs,h1,h2,h3⟩;exact⟨cs,h1,h2,fun j hj=>by obtain⟨c,a,b⟩:=h3 j hj;exact⟨c,a,ih j _ b⟩⟩
def V.one:V->Bool
 |.un=>false
 |.und=>false
 |.agg _ _=>false
 |.tup _ _=>false
 |_=>true
theorem V.qg3{H:qbe}{M:Id->Option Nat}{F:Nat->Prop}{w:World}{u:V}{v:Value}(h1:u.one=true)(h:qay H M F w u v):v.oneCell'=true:=by
 cases u with
 |un=>cases h1
 |und=>cases h1
 |agg n get=>cases h1
 |tup n get=>cases h1
 |t x=>exact h.plain
 |qby=>rw[show v=_ from h];rfl
 |qej=>rw[show v=_ from h];rfl
 |qek=>rw[show v=_ from h];rfl
 |qel=>rw[show v=_ from h];rfl
 |ptr id ver r c=>exact h.1
 |qbq id ver r len=>exact h.1
 |qcd id=>exact h.1
 |fp m get=>obtain⟨b,o,rfl,_⟩:=h;rfl
 |fn f n cap=>obtain⟨cs,rfl,_⟩:=h;rfl
def V.row:V->Nat->V
 |.agg _ get,j=>get j
 |u,_=>u
def V.qri:V->Nat->Bool
 |.agg n _,s=>Nat.beq n s
 |u,s=>u.one&&Nat.beq s 1
theorem V.qte{H:qbe}{M:Id->Option Nat}{F:Nat->Prop}{w:World}{u:V}{v:Value}{s:Nat}(h1:u.qri s=true)(h:qay H M F w u v) :
  v.cells.size=s/\∀j,j<s->∃c,v.cells[j]?=some c/\c.oneCell'=true/\qay H M F w (u.row j) c:=by
 have key:u.one=true->Nat.beq s 1=true->(∀j,u.row j=u)->v.cells.size=s/\∀j,j<s->∃c,v.cells[j]?=some c/\c.oneCell'=true/\qay H M F w (u.row j) c:=by
  intro ho hs hr;obtain rfl:=zg2 hs;have hp:=V.qg3 ho h
  have hc:v.cells=#[v]:=by cases v<;>first|rfl|(simp[Value.oneCell']at hp)
  refine⟨by rw[hc];rfl,fun j hj=>⟨v,?_,hp,by rw[hr];exact h⟩⟩
  have:j=0:=by omega
  subst this;rw[hc];rfl
 cases u with
 |agg n get=>
  obtain rfl:=zg2 h1;obtain⟨cs,rfl,h2,h3⟩:=h;exact⟨h2,h3⟩
 |_=>
  simp only[V.qri,zgz]at h1;exact key h1.1 h1.2 (fun _=>rfl)
theorem Ext.refl(H:qbe)(M:Id->Option Nat)(F:Nat->Prop)(w:World):Ext H M F w H M F w:=fun _ _ h=>h
theorem Ext.trans{H1 H2 H3:qbe}{ι1 ι2 ι3:Id->Option Nat}{F1 F2 F3:Nat->Prop}{w1 w2 w3:World}
  (h:Ext H1 ι1 F1 w1 H2 ι2 F2 w2) (k:Ext H2 ι2 F2 w2 H3 ι3 F3 w3):Ext H1 ι1 F1 w1 H3 ι3 F3 w3:=fun u v hu=>k u v (h u v hu)
def zgx(H:qbe)(M:Id->Option Nat)(F:Nat->Prop)(w:World)(o:qcu)(id:Id):Prop:=
 o.n<=LEN/\match M id with
 |none=>o.n=0
 |some b=>∃cur,w.heap[b]?=some (.cells cur o.elem (0,0))/\o.n*o.sz<=cur.size /\
   ∀i,i<o.n->∀j,j<o.sz->∃c,cur[i*o.sz+j]?=some c/\c.oneCell'=true/\qay H M F w (o.get i j) c
def qce.val:qce->Value
 |.i n=>.int .i64 n
 |.s b=>.string b
def qce.isS:qce->Bool
 |.i _=>false
 |.s _=>true
def zgy(H:qbe)(M:Id->Option Nat)(F:Nat->Prop)(w:World)(str:Bool)(get:qce->Option V)(id:Id):Prop:=
 ∃b es clock,M id=some b/\w.heap[b]?=some (.map es clock)/\(∀e∈es.toList,∃k:qce,k.isS=str/\e.key=k.val) /\
  ∀k:qce,k.isS=str->match get k with
   |none=>∀e∈es.toList,e.key≠k.val
   |some u=>∃(i:Nat) (e:MapEntry),es[i]?=some e/\(e.key=k.val/\∀j,j<i->∀e',es[j]?=some e'->e'.key≠k.val)/\qay H M F w u e.val
structure Env where
 w0:World
 W0:Nat->Prop
 H0:qbe
 ι0:Id->Option Nat
 F0:Nat->Prop
def Slot.is:Slot->Prop
 |.live _=>True
 |.mp _ _=>True
 |_=>False
structure qc4(E:Env)(M:Id->Option Nat)(F:Nat->Prop)(H:qbe)(w:World):Prop where
 os:w.os=E.w0.os
 tape:w.tape=E.w0.tape
 output:w.output=E.w0.output
 size:E.w0.heap.size<=w.heap.size
 kept:∀b,b<E.w0.heap.size->¬ E.W0 b->w.heap[b]?=E.w0.heap[b]?
 obj:∀id o,H.slot id=.live o->zgx H M F w o id
 qxx:∀id s g,H.slot id=.mp s g->zgy H M F w s g id
 inj:∀id id' b,(H.slot id).is->(H.slot id').is->M id=some b->M id'=some b->id=id'
 qto:∀id b,(H.slot id).is->M id=some b->¬ F b
 own:∀id b,(H.slot id).is->M id=some b->E.W0 b\/E.w0.heap.size<=b
 lt:∀id b,(H.slot id).is->M id=some b->b<w.heap.size
 qno:∀b,F b->b<w.heap.size
 qxc:∀b,F b->E.F0 b\/E.W0 b\/E.w0.heap.size<=b
 next:∀id:Id,H.next<=id.k->H.slot id=.qae
 ext:Ext E.H0 E.ι0 E.F0 E.w0 H M F w
 lo:∀id:Id,(H.lo<=id.k\/id.p≠[])->E.H0.slot id=.qae
structure Rel(E:Env)(M:Id->Option Nat)(F:Nat->Prop)(st:St)(a:Act)(w:World):Prop where
 h:qc4 E M F st.heap w
 env:∀t,qay st.heap M F w (st.env t) (a.tmps.getD t undef)
 nt:a.tmps.size=st.nt
 defers:a.defers=[]
def zfp(E:Env)(K:St->Prop)(a:Act)(w:World):Prop:=∃M F st,Rel E M F st a w/\K st
def qgs(st st':St):Prop:=∀E M F a w,Rel E M F st a w->∃ι' F',Rel E ι' F' st' a w
end Go.Abs
namespace Go.Abs
open Go
def V.cell:Value->V
 |.bool b=>.t (.bool b)
 |.int k n=>.t (.int k n)
 |.string s=>bif Nat.ble s.size 9223372036854775807 then .t (.str s)else .un
 |.slice none 0 0=>.qby
 |.pointer none=>.qej
 |.map none=>.qek
 |.nilFunc=>.qel
 |.nilIface=>.t .q4h
 |_=>.un
def V.ofValue:Value->V
 |.agg cs=>bif cs.all (·.oneCell')then .agg cs.size (fun j=>V.cell (cs.getD j undef))else .un
 |v=>V.cell v
theorem V.qhp(H:qbe)(M:Id->Option Nat)(F:Nat->Prop)(w:World)(v:Value):qay H M F w (V.cell v) v:=by
 unfold V.cell;split
 ·rfl
 ·rfl
 ·rename_i s;cases h:Nat.ble s.size 9223372036854775807
  ·exact trivial
  ·exact⟨rfl,zg4 h⟩
 all_goals first|rfl|exact trivial
theorem V.qma(H:qbe)(M:Id->Option Nat)(F:Nat->Prop)(w:World)(v:Value):qay H M F w (V.ofValue v) v:=by
 unfold V.ofValue;split
 ·rename_i cs;cases h:cs.all (·.oneCell')
  ·exact trivial
  ·refine⟨cs,rfl,rfl,fun j hj=>⟨cs[j],zhp hj,?_,?_⟩⟩
   ·exact zi2.1 h _ (Array.getElem_mem hj)
   ·have:cs.getD j undef=cs[j]:=by simp[Array.getD,hj]
    show qay H M F w (V.cell (cs.getD j undef)) cs[j];rw[this];exact V.qhp H M F w _
 ·exact V.qhp H M F w v
def St.eval(st:St):Operand->V
 |.tmp t=>st.env t
 |.const v=>V.ofValue v
 |.global _=>.un
 |.func f=>.fn f 0 (fun _=>.un)
theorem Rel.eval{E:Env}{M:Id->Option Nat}{F:Nat->Prop}{st:St}{a:Act}{w:World}(h:Rel E M F st a w)(x:Operand) :
  qay st.heap M F w (st.eval x) (a.eval x):=by
 cases x with
 |tmp t=>exact h.env t
 |const v=>exact V.qma _ _ _ _ _
 |global g=>exact trivial
 |func f=>exact⟨#[],rfl,rfl,fun j hj=>absurd hj (zhf _)⟩
def St.put(st:St)(d:Option Tmp)(v:V):St:=
 match d with
 |none=>st
 |some d=>{ st with env:=fun t=>bif Nat.beq t d then(bif Nat.blt d st.nt then v else .un)else st.env t }
def St.on(st:St)(H:qbe):St:={ st with heap:=H }
theorem Rel.put{E:Env}{M:Id->Option Nat}{F:Nat->Prop}{st:St}{a:Act}{w:World}{ι':Id->Option Nat}{F':Nat->Prop}{H':qbe}{w':World}
  (h:Rel E M F st a w) (hH:qc4 E ι' F' H' w') (he:Ext st.heap M F w H' ι' F' w') (d:Option Tmp) {u:V} {v:Value} (hv:qay H' ι' F' w' u v) :
  Rel E ι' F' ((st.on H').put d u) (a.put d v) w':=by
 refine⟨?_,fun t=>?_,?_,?_⟩
 ·cases d<;>exact hH
 ·cases d with
  |none=>exact he _ _ (h.env t)
  |some d=>
   simp only[St.put,St.on,Act.put];cases hb:Nat.beq t d with
   |true=>
    obtain rfl:=zg2 hb;cases hlt:Nat.blt t st.nt with
    |false=>exact trivial
    |true=>
     have hlt':t<a.tmps.size:=by rw[h.nt];exact zg4 hlt
     simp only[cond_true,zhl,zi7 hlt',zhi];exact hv
   |false=>
    have hne:d≠t:=fun e=>by subst e;simp at hb
    simp only[cond_false,zhl,zi3 hne];have:=h.env t;rw[zhl]at this;exact he _ _ this
 ·cases d with
  |none=>exact h.nt
  |some d=>simp only[Act.put,St.put,St.on,Array.size_setIfInBounds];exact h.nt
 ·cases d<;>exact h.defers
theorem Rel.qgf{E:Env}{M:Id->Option Nat}{F:Nat->Prop}{st:St}{a:Act}{w:World}
  (h:Rel E M F st a w) (d:Option Tmp) {u:V} {v:Value} (hv:qay st.heap M F w u v):Rel E M F (st.put d u) (a.put d v) w:=
 h.put h.h (Ext.refl _ _ _ _) d hv
def qjj(E:Env)(Q:Exit->St->Prop):Exit->Act->World->Prop
 |.panic _,_,_=>False
 |.outgrown,_,_=>False
 |e,a,w=>zfp E (Q e) a w
structure GOp where
 dst:Option Tmp
 op:Op
 type:TypeId
 g:Option (Option Tmp×Bool)
def GOp.oper (g : GOp) : Oper := { dst := g.dst, op := g.op, type := g.type, pos := "", after := #[], guard := none }
def GOp.wanted(g:GOp)(tmps:Array Value):Bool:=
 match g.g with
 |none=>true
 |some (none,_)=>false
 |some (some t,want)=>match tmps[t]? with
  |some (.bool b)=>b==want
  |_=>false
def zdm(all:List Oper):Option (Nat×Bool)->Option (Option Tmp×Bool)
 |none=>none
 |some (j,w)=>some ((all[j]?).bind (·.dst),w)
def Oper.gop(all:List Oper)(o:Oper):GOp:=⟨o.dst,o.op,o.type,zdm all o.guard⟩
def qw1(all:List Oper):List Oper->List GOp
 |[]=>[]
 |⟨d,op,ty,_,_,g⟩::l=>⟨d,op,ty,zdm all g⟩::qw1 all l
theorem qoc(all:List Oper)(o:Oper)(l:List Oper):qw1 all (o::l)=Oper.gop all o::qw1 all l:=by cases o;rfl
def q91(A:Array Oper):List GOp:=qw1 A.toList A.toList
def lwp(P:Program):List GOp->(Exit->Act->World->Prop)->Act->World->Prop
 |[],Q,a,w=>Q .normal a w
 |g::L,Q,a,w=>if g.wanted a.tmps then g.oper.wp P a w (lwp P L Q) Q else lwp P L Q (a.put g.dst undef) w
theorem qet(A:Array Oper)(o:Oper)(tmps:Array Value):(Oper.gop A.toList o).wanted tmps=Region.wanted o (yielded A tmps):=by
 unfold GOp.wanted Region.wanted Oper.gop;cases hg:o.guard with
 |none=>rfl
 |some jw=>
  obtain⟨j,want⟩:=jw;simp only[yielded,zdm,zh6];cases hd:(A[j]?).bind (·.dst)with
  |none=>simp
  |some t=>
   simp only[Option.bind_some];cases ht:tmps[t]? with
   |none=>simp
   |some v=>cases v<;>simp
theorem qtz(o:Oper)(dst:Option Tmp)(p:String)(af:Array Edge)(gd:Option (Nat×Bool))(ρ:Operand->Value) :
  execOp ρ { dst:=dst,op:=o.op,type:=o.type,pos:=p,after:=af,guard:=gd }=execOp ρ o:=by
 unfold execOp;rfl
theorem qx2(P:Program)(o:Oper)(gd:Option (Option Tmp×Bool))(a:Act)(w:World)(K:Act->World->Prop)(Q:Exit->Act->World->Prop)
  (h:(GOp.oper ⟨o.dst,o.op,o.type,gd⟩).wp P a w K Q):o.wp P a w K Q:=by
 unfold Oper.wp at h ⊢;have e:execOp a.eval (GOp.oper ⟨o.dst,o.op,o.type,gd⟩)=execOp a.eval o:=qtz o _ _ _ _ _;rw[e]at h;generalize (execOp a.eval o).run P w=r at h ⊢;cases r with
 |ok n w'=>cases n<;>exact h
 |halt x w'=>cases x<;>exact h
theorem qvi{P:Program}{A:Array Oper}{Q:Exit->Act->World->Prop}:∀(l:List Oper) (k:Nat),A.toList.drop k=l->k+l.length=A.size ->
  ∀(a:Act) (w:World),lwp P (qw1 A.toList l) Q a w->wpOps P A Q (List.range' k l.length) a w
 |[],k,h,hk,a,w,hw=>hw
 |o::l,k,h,hk,a,w,hw=>by
  have hlt:k<A.size:=by simp at hk;omega
  have ho:A[k]?=some o:=by
   have:=congrArg (·[0]?) h;simpa using this
  have hdrop:A.toList.drop (k+1)=l:=by
   have:=congrArg (·.drop 1) h;simpa[List.drop_drop,zil]using this
  have ih:=qvi (P:=P) (Q:=Q) l (k+1) hdrop (by simp at hk;omega)
  simp only[zg1,List.range'_succ,wpOps,ho];rw[qoc]at hw;simp only[lwp,qet]at hw;split
  ·rename_i hc;rw[if_pos hc]at hw;exact .inl (Oper.wp_mono (fun a w=>ih a w) (qx2 P o _ a w _ _ hw))
  ·rename_i hc;rw[if_neg hc]at hw;exact ih _ _ hw
theorem q8h{P:Program}{A:Array Oper}{Q:Exit->Act->World->Prop}(a:Act)(w:World)(h:lwp P (q91 A) Q a w):wpOps P A Q (List.range A.size) a w:=by
 have:=qvi (P:=P) (A:=A) (Q:=Q) A.toList 0 rfl (by simp) a w h;rw[List.range_eq_range'];simpa using this
section
variable (P:Program)
structure SL(L:List GOp)(Q:Exit->St->Prop)(st:St):Prop where
 mk::(out:∀E M F a w,Rel E M F st a w->lwp P L (qjj E Q) a w)
structure SC(c:Code)(Q:Exit->St->Prop)(st:St):Prop where
 mk::(out:∀E M F a w,Rel E M F st a w->c.wp P (qjj E Q) a w)
end
def qjn(K:St->Prop)(Q:Exit->St->Prop):Exit->St->Prop
 |.normal,st=>K st
 |e,st=>Q e st
def inQ(id:Nat)(Q:Exit->St->Prop):Exit->St->Prop
 |.exit id',st=>bif Nat.beq id' id then Q .normal st else Q (.exit id') st
 |e,st=>Q e st
variable {P:Program} {Q:Exit->St->Prop} {st:St} {L:List GOp}
theorem SL.weak{st':St}(h:qgs st st')(k:SL P L Q st'):SL P L Q st:=
 ⟨fun E M F a w r=>by obtain⟨ι',F',r'⟩:=h E M F a w r;exact k.out E ι' F' a w r'⟩
theorem SC.weak{c:Code}{st':St}(h:qgs st st')(k:SC P c Q st'):SC P c Q st:=
 ⟨fun E M F a w r=>by obtain⟨ι',F',r'⟩:=h E M F a w r;exact k.out E ι' F' a w r'⟩
theorem SL.nil(h:Q .normal st):SL P [] Q st:=⟨fun E M F a w r=>⟨M,F,st,r,h⟩⟩
theorem SC.region{id:Nat}{A:Array Oper}(h:SL P (q91 A) Q st):SC P (.region id A false) Q st:=
 ⟨fun E M F a w r=>wp_region (q8h _ _ (h.out E M F a w r))⟩
theorem SC.skip(h:Q .normal st):SC P .skip Q st:=⟨fun E M F a w r=>wp_skip ⟨M,F,st,r,h⟩⟩
theorem SC.exit{id:Nat}(h:Q (.exit id) st):SC P (.exit id) Q st:=⟨fun E M F a w r=>wp_exit ⟨M,F,st,r,h⟩⟩
theorem SC.ret(h:Q .ret st):SC P .ret Q st:=⟨fun E M F a w r=>wp_ret ⟨M,F,st,r,h⟩⟩
theorem qsj{E:Env}{K:St->Prop}{y:Code}(hK:∀st,K st->SC P y Q st)(e:Exit)(a:Act)(w:World)(h:qjj E (qjn K Q) e a w) :
  Exit.then (y.wp P (qjj E Q)) (qjj E Q) e a w:=by
 cases e with
 |normal=>obtain⟨M,F,st,r,k⟩:=h;exact(hK st k).out E M F a w r
 |exit id=>exact h
 |goto l=>exact h
 |ret=>exact h
 |panic c=>exact h
 |outgrown=>exact h
theorem SC.seq{x y:Code}(h:∀K:St->Prop,(∀st,SC P y Q st->K st)->SC P x (qjn K Q) st):SC P (.seq x y) Q st:=
 ⟨fun E M F a w r=>wp_seq (wp_mono ((h (SC P y Q) (fun _ h=>h)).out E M F a w r) (qsj fun _ h=>h))⟩
theorem SC.seq'{x y:Code}(h:SC P x (qjn (SC P y Q) Q) st):SC P (.seq x y) Q st:=
 ⟨fun E M F a w r=>wp_seq (wp_mono (h.out E M F a w r) (qsj fun _ h=>h))⟩
theorem SC.cond{c:Operand}{x y:Code}{b:Bool}(hc:st.eval c=.t (.bool b))(h1:b=true->SC P x Q st)(h2:b=false->SC P y Q st):SC P (.cond c x y) Q st:=
 ⟨fun E M F a w r=>by
  have hv:=r.eval c;rw[hc]at hv;exact wp_cond_split (t:=b) hv (fun hb=>(h1 hb).out E M F a w r) (fun hb=>(h2 hb).out E M F a w r)⟩
theorem SC.cond_true{c:Operand}{x y:Code}(hc:st.eval c=.t (.bool true))(h:SC P x Q st):SC P (.cond c x y) Q st:=
 SC.cond hc (fun _=>h) (fun e=>by cases e)
theorem SC.cond_false{c:Operand}{x y:Code}(hc:st.eval c=.t (.bool false))(h:SC P y Q st):SC P (.cond c x y) Q st:=
 SC.cond hc (fun e=>by cases e) (fun _=>h)
theorem SC.block{id:Nat}{c:Code}(h:SC P c (inQ id Q) st):SC P (.block id c) Q st:=
 ⟨fun E M F a w r=>wp_block (wp_mono (h.out E M F a w r) fun e a w he=>by
  cases e with
  |exit id'=>
   obtain⟨M,F,st,r,k⟩:=he;simp only[inQ]at k;simp only[Exit.inBlock];cases hb:Nat.beq id' id with
   |true=>
    rw[hb]at k;rw[if_pos (zg2 hb)];exact⟨M,F,st,r,k⟩
   |false=>
    rw[hb]at k;rw[if_neg (fun e=>by subst e;simp at hb)]
    exact⟨M,F,st,r,k⟩
  |normal=>exact he
  |goto l=>exact he
  |ret=>exact he
  |panic c=>exact he
  | outgrown=>exact he)⟩
theorem SC.mono{c:Code}{Q':Exit->St->Prop}(h:SC P c Q st)(hq:∀e st,Q e st->Q' e st):SC P c Q' st:=
 ⟨fun E M F a w r=>wp_mono (h.out E M F a w r) fun e a w he=>by
  cases e with
  |panic c=>exact he
  |outgrown=>exact he
  |normal=>obtain⟨M,F,st,r,k⟩:=he;exact⟨M,F,st,r,hq _ _ k⟩
  |exit _=>obtain⟨M,F,st,r,k⟩:=he;exact⟨M,F,st,r,hq _ _ k⟩
  |goto _=>obtain⟨M,F,st,r,k⟩:=he;exact⟨M,F,st,r,hq _ _ k⟩
  | ret=>obtain⟨M,F,st,r,k⟩:=he;exact⟨M,F,st,r,hq _ _ k⟩⟩
def qwq(P:Program)(c:Code)(Q:Exit->Act->World->Prop)(a:Act)(w:World):Prop:=
 ∀(b:Frame) (k:List Item) (cs:List Frame),∃e a' w',Q e a' w'/\Arrives P (lone (b.at a (.inLoop c::k)) cs w) b k cs e a' w'
theorem qsu{c:Code}{Q:Exit->Act->World->Prop}{a:Act}{w:World}(h:c.wp P (Exit.then (qwq P c Q) Q) a w):qwq P c Q a w:=by
 intro b k cs;obtain⟨e,a₁,w₁,hq,harr⟩:=h b (.inLoop c::k) cs;cases e with
 |normal=>
  obtain⟨e₂,a₂,w₂,hq₂,harr₂⟩:=hq b k cs;exact⟨e₂,a₂,w₂,hq₂,.of_steps (.head step_inLoop harr) harr₂⟩
 |exit id=>exact⟨_,a₁,w₁,hq,.of_steps (.one step_inLoop) (.pass (x:=.inLoop c) rfl (fun _ _=>.inl (by simp)) harr)⟩
 |goto l=>exact⟨_,a₁,w₁,hq,.of_steps (.one step_inLoop) (.pass (x:=.inLoop c) rfl (fun _ _=>.inl (by simp)) harr)⟩
 |ret=>exact⟨_,a₁,w₁,hq,.of_steps (.one step_inLoop) (.pass (x:=.inLoop c) rfl (fun _ _=>.inl (by simp)) harr)⟩
 |panic ch=>exact⟨_,a₁,w₁,hq,.of_steps (.one step_inLoop) (.pass (x:=.inLoop c) rfl (fun _ _=>.inl (by simp)) harr)⟩
 |outgrown=>exact⟨_,a₁,w₁,hq,.of_steps (.one step_inLoop) (.pass (x:=.inLoop c) rfl (fun _ _=>.inl (by simp)) harr)⟩
theorem qqw{c:Code}{Q:Exit->Act->World->Prop}{a:Act}{w:World}(h:c.wp P (Exit.then (qwq P c Q) Q) a w):(Code.loop c).wp P Q a w:=by
 intro b k cs;obtain⟨e,a₁,w₁,hq,harr⟩:=h b (.inLoop c::k) cs;cases e with
 |normal=>
  obtain⟨e₂,a₂,w₂,hq₂,harr₂⟩:=hq b k cs;exact⟨e₂,a₂,w₂,hq₂,.of_steps (.head step_loop harr) harr₂⟩
 |exit id=>exact⟨_,a₁,w₁,hq,.of_steps (.one step_loop) (.pass (x:=.inLoop c) rfl (fun _ _=>.inl (by simp)) harr)⟩
 |goto l=>exact⟨_,a₁,w₁,hq,.of_steps (.one step_loop) (.pass (x:=.inLoop c) rfl (fun _ _=>.inl (by simp)) harr)⟩
 |ret=>exact⟨_,a₁,w₁,hq,.of_steps (.one step_loop) (.pass (x:=.inLoop c) rfl (fun _ _=>.inl (by simp)) harr)⟩
 |panic ch=>exact⟨_,a₁,w₁,hq,.of_steps (.one step_loop) (.pass (x:=.inLoop c) rfl (fun _ _=>.inl (by simp)) harr)⟩
 |outgrown=>exact⟨_,a₁,w₁,hq,.of_steps (.one step_loop) (.pass (x:=.inLoop c) rfl (fun _ _=>.inl (by simp)) harr)⟩
theorem SC.loop{c:Code}(h:∀J:St->Prop,(∀st st',qgs st st'->J st'->J st)->(∀st,SC P c (qjn J Q) st->J st)->J st):SC P (.loop c) Q st:=by
 have key:=h (fun st=>∀E M F a w,Rel E M F st a w->c.wp P (Exit.then (qwq P c (qjj E Q)) (qjj E Q)) a w)
  (fun st st' hw hj E M F a w r=>by obtain⟨ι',F',r'⟩:=hw E M F a w r;exact hj E ι' F' a w r')
  (fun st hs E M F a w r=>wp_mono (hs.out E M F a w r) fun e a w he=>by
   cases e with
   |normal=>obtain⟨M,F,st,r,k⟩:=he;exact qsu (k E M F a w r)
   |exit id=>exact he
   |goto l=>exact he
   |ret=>exact he
   |panic c=>exact he
   | outgrown=>exact he)
 exact⟨fun E M F a w r=>qqw (key E M F a w r)⟩
theorem SL.value{g:GOp}(hg:g.g=none) (h:∀E M F a w,Rel E M F st a w->∃v w' ι' F' H' u,(execOp a.eval g.oper).run P w=.ok (.value v) w' /\
   qc4 E ι' F' H' w'/\Ext st.heap M F w H' ι' F' w'/\qay H' ι' F' w' u v/\SL P L Q ((st.on H').put g.dst u)):SL P (g::L) Q st:=
 ⟨fun E M F a w r=>by
  obtain⟨v,w',ι',F',H',u,h1,h2,h3,h4,h5⟩:=h E M F a w r;have hw:g.wanted a.tmps=true:=by unfold GOp.wanted;rw[hg]
  simp only[lwp,hw,if_true,Oper.wp,h1,Oper.upon];exact h5.out E ι' F' _ _ (r.put h2 h3 g.dst h4)⟩
theorem SL.gu{d:Option Tmp}{op:Op}{ty:TypeId}{t:Tmp}{want:Bool}(hb:st.env t=.und)(h:SL P L Q (st.put d .und)):SL P (⟨d,op,ty,some (some t,want)⟩::L) Q st:=
 ⟨fun E M F a w r=>by
  have hv:=r.env t;rw[hb]at hv;have hw:GOp.wanted ⟨d,op,ty,some (some t,want)⟩ a.tmps=false:=by
   have hv:a.tmps.getD t undef=undef:=hv;simp only[GOp.wanted];rw[zhl]at hv;cases he:a.tmps[t]? with
   |none=>rfl
   |some v=>
    rw[he,zhi]at hv;subst hv;rfl
  simp only[lwp,hw,zhs,if_false];exact h.out E M F _ _ (r.qgf d (u:=.und) (v:=undef) rfl)⟩
theorem SL.guard{d:Option Tmp}{op:Op}{ty:TypeId}{t:Tmp}{want b:Bool}(hb:st.env t=.t (.bool b))(hlt:Nat.blt t st.nt=true)
  (h1:b=want->SL P (⟨d,op,ty,none⟩::L) Q st) (h2:b=!want->SL P L Q (st.put d .und)):SL P (⟨d,op,ty,some (some t,want)⟩::L) Q st:=
 ⟨fun E M F a w r=>by
  have hv:=r.env t;rw[hb]at hv;have hlt':t<a.tmps.size:=by rw[r.nt];exact zg4 hlt
  have he:a.tmps[t]?=some (.bool b):=by
   have:a.tmps.getD t undef=.bool b:=hv;rw[zhl,zhp hlt',zhi]at this;rw[zhp hlt',this]
  have hw:GOp.wanted ⟨d,op,ty,some (some t,want)⟩ a.tmps=(b==want):=by simp only[GOp.wanted,he]
  by_cases hbw:b=want
  ·subst hbw;have:=(h1 rfl).out E M F a w r;have hw2:GOp.wanted ⟨d,op,ty,none⟩ a.tmps=true:=rfl;simp only[lwp,hw2,if_true]at this;simp only[lwp,hw,beq_self_eq_true,if_true];exact this
  ·have hb2:b=!want:=by cases b<;>cases want<;>simp_all
   have:=(h2 hb2).out E M F _ _ (r.qgf d (u:=.und) (v:=undef) rfl);have hw2:(b==want)=false:=by simpa using hbw
   simp only[lwp,hw,hw2,zhs,if_false];exact this⟩
end Go.Abs
namespace Go.Abs
open Go
variable {P:Program} {st:St} {d:Option Tmp} {ty:TypeId}
def QV(P:Program)(g:GOp)(u:V)(st:St):Prop:=∀E M F a w,Rel E M F st a w->∃v,(execOp a.eval g.oper).run P w=.ok (.value v) w/\qay st.heap M F w u v
class qb6(P:Program)(t:TypeId)(agg:outParam Bool)(s:outParam Nat):Prop where
 d:∃d,P.underlying t=some d/\d.isRow=agg
 s:(P.info? t).map (·.size)=some s
class qbb(P:Program)(t:TypeId)(v:outParam Value):Prop where
 z:(P.info? t).map (·.zero)=some (some v)
 c:v.cells.all (·.oneCell')=true
class qan(P:Program)(t f:Nat)(off:outParam Nat)(agg:outParam Bool)(s:outParam Nat):Prop where
 d:∃fs fl,P.underlying t=some (.struct fs)/\fs[f]?=some fl/\fl.offset=off/\qb6 P fl.type agg s
 s:s≠0
class qb2(P:Program)(t:TypeId)(e:outParam TypeId)(s bytes:outParam Nat):Prop where
 d:P.underlying t=some (.slice e)
 s:(P.info? e).map (fun i=>(i.size,i.bytes))=some (s,bytes)
class qug(P:Program)(t:TypeId)(n:outParam Nat)(e:outParam TypeId)(s:outParam Nat):Prop where
 d:P.underlying t=some (.array n e)
 s:(P.info? e).map (·.size)=some s
class qdx(P:Program)(t:TypeId)(d:outParam TypeDesc):Prop where
 d:P.underlying t=some d
theorem O.move{x:Operand}:QV P ⟨d,.move x,ty,none⟩ (st.eval x) st:=
 fun E M F a w r=>⟨_,rfl,r.eval x⟩
theorem O.assign{x:Operand}:QV P ⟨d,.assign x,ty,none⟩ (st.eval x) st:=
 fun E M F a w r=>⟨_,rfl,r.eval x⟩
theorem O.ql5{c x y:Operand}(hc:st.eval c=.t (.bool true)):QV P ⟨d,.pick c x y,ty,none⟩ (st.eval x) st:=fun E M F a w r=>by
 have h:=r.eval c;rw[hc]at h;have h':a.eval c=.bool true:=h;exact⟨a.eval x,by simp[execOp,GOp.oper,h',asBool],r.eval x⟩
theorem O.qjv{c x y:Operand}(hc:st.eval c=.t (.bool false)):QV P ⟨d,.pick c x y,ty,none⟩ (st.eval y) st:=fun E M F a w r=>by
 have h:=r.eval c;rw[hc]at h;have h':a.eval c=.bool false:=h;exact⟨a.eval y,by simp[execOp,GOp.oper,h',asBool],r.eval y⟩
theorem qb5{E:Env}{M:Id->Option Nat}{F:Nat->Prop}{a:Act}{w:World}(r:Rel E M F st a w){x:Operand}{k:IntKind}{n:Int}
  (h:st.eval x=.t (.int k n)):a.eval x=.int k n:=by
 have:=r.eval x;rw[h]at this;exact this
theorem qhc{E:Env}{M:Id->Option Nat}{F:Nat->Prop}{a:Act}{w:World}(r:Rel E M F st a w){x:Operand}{b:Bool}
  (h:st.eval x=.t (.bool b)):a.eval x=.bool b:=by
 have:=r.eval x;rw[h]at this;exact this
theorem O.qxz{op:BinOp}{tx tY:TypeId}{x y:Operand}{k:IntKind}{m n:Int}(hx:st.eval x=.t (.int k m))(hy:st.eval y=.t (.int k n))(z:T)
  (hz:∀w,∃v,(binOp op tx (.int k m) (.int k n)).run P w=.ok v w/\∀F w,Reads F w z v):QV P ⟨d,.binOp op tx x y tY,ty,none⟩ (.t z) st:=
 fun E M F a w r=>by
  obtain⟨v,h1,h2⟩:=hz w;refine⟨v,?_,h2 F w⟩;have hg:(eqGuard op tx x y (.int k m) (.int k n)).run P w=.ok () w:=by
   unfold eqGuard;cases op<;>rfl
  simp[execOp,GOp.oper,qb5 r hx,qb5 r hy,hg,h1]
theorem O.add{tx tY:TypeId}{x y:Operand}{k:IntKind}{m n:Int}(hx:st.eval x=.t (.int k m))(hy:st.eval y=.t (.int k n)){z:Int}(hz:k.wrap (m+n)=z):QV P ⟨d,.binOp .add tx x y tY,ty,none⟩ (.t (.int k z)) st:=
 O.qxz hx hy (.int k z) (fun w=>⟨.int k z,by simp[binOp,Op.intArith,hz],fun F w=>rfl⟩)
theorem O.sub{tx tY:TypeId}{x y:Operand}{k:IntKind}{m n:Int}(hx:st.eval x=.t (.int k m))(hy:st.eval y=.t (.int k n)){z:Int}(hz:k.wrap (m-n)=z):QV P ⟨d,.binOp .sub tx x y tY,ty,none⟩ (.t (.int k z)) st:=
 O.qxz hx hy (.int k z) (fun w=>⟨.int k z,by simp[binOp,Op.intArith,hz],fun F w=>rfl⟩)
theorem O.mul{tx tY:TypeId}{x y:Operand}{k:IntKind}{m n:Int}(hx:st.eval x=.t (.int k m))(hy:st.eval y=.t (.int k n)){z:Int}(hz:k.wrap (m*n)=z):QV P ⟨d,.binOp .mul tx x y tY,ty,none⟩ (.t (.int k z)) st:=
 O.qxz hx hy (.int k z) (fun w=>⟨.int k z,by simp[binOp,Op.intArith,hz],fun F w=>rfl⟩)
theorem O.quo{tx tY:TypeId}{x y:Operand}{k:IntKind}{m n:Int}(hx:st.eval x=.t (.int k m))(hy:st.eval y=.t (.int k n))(hn:n≠0){z:Int}(hz:k.wrap (m.tdiv n)=z):QV P ⟨d,.binOp .quo tx x y tY,ty,none⟩ (.t (.int k z)) st:=
 O.qxz hx hy (.int k z) (fun w=>⟨.int k z,by simp[binOp,Op.intDiv,hn,hz],fun F w=>rfl⟩)
theorem O.rem{tx tY:TypeId}{x y:Operand}{k:IntKind}{m n:Int}(hx:st.eval x=.t (.int k m))(hy:st.eval y=.t (.int k n))(hn:n≠0):QV P ⟨d,.binOp .rem tx x y tY,ty,none⟩ (.t (.int k (m.tmod n))) st:=
 O.qxz hx hy (.int k (m.tmod n)) (fun w=>⟨.int k (m.tmod n),by simp[binOp,Op.intDiv,hn],fun F w=>rfl⟩)
def qss(op:BinOp)(k:IntKind)(m n:Int):Int:=
 let a:=BitVec.ofInt k.bits m
 let b:=BitVec.ofInt k.bits n
 k.wrap ((match op with | .and=>a &&& b | .or=>a ||| b | .xor=>a ^^^ b|_=>a &&& ~~~b:BitVec k.bits).toNat:Int)
theorem O.bits{op:BinOp}{tx tY:TypeId}{x y:Operand}{k:IntKind}{m n:Int}(hx:st.eval x=.t (.int k m))(hy:st.eval y=.t (.int k n))
  (ho:(match op with | .and | .or | .xor | .andNot=>true|_=>false)=true):QV P ⟨d,.binOp op tx x y tY,ty,none⟩ (.t (.int k (qss op k m n))) st:=
 O.qxz hx hy (.int k (qss op k m n)) (fun w=>by
  cases op<;>first|(exfalso;revert ho;decide)|exact⟨_,by simp only[binOp,Op.intBits,ne_eq,not_true_eq_false,if_false];rfl,fun F w=>rfl⟩)
theorem O.shl{tx tY:TypeId}{x y:Operand}{k k':IntKind}{m n:Int}(hx:st.eval x=.t (.int k m))(hy:st.eval y=.t (.int k' n))(hn:0<=n):QV P ⟨d,.binOp .shl tx x y tY,ty,none⟩ (.t (.int k (k.wrap (m*2^(min n.toNat k.bits))))) st:=
 fun E M F a w r=>by
  refine⟨.int k (k.wrap (m*2^(min n.toNat k.bits))),?_,rfl⟩;have hg:(eqGuard .shl tx x y (.int k m) (.int k' n)).run P w=.ok () w:=rfl;have hn':¬ n<0:=by omega
  simp[execOp,GOp.oper,qb5 r hx,qb5 r hy,hg,binOp,Op.shift,hn']
theorem O.shr{tx tY:TypeId}{x y:Operand}{k k':IntKind}{m n:Int}(hx:st.eval x=.t (.int k m))(hy:st.eval y=.t (.int k' n))(hn:0<=n):QV P ⟨d,.binOp .shr tx x y tY,ty,none⟩ (.t (.int k (m.fdiv (2^(min n.toNat k.bits))))) st:=
 fun E M F a w r=>by
  refine⟨.int k (m.fdiv (2^(min n.toNat k.bits))),?_,rfl⟩;have hg:(eqGuard .shr tx x y (.int k m) (.int k' n)).run P w=.ok () w:=rfl;have hn':¬ n<0:=by omega
  simp[execOp,GOp.oper,qb5 r hx,qb5 r hy,hg,binOp,Op.shift,hn']
theorem O.lss{tx tY:TypeId}{x y:Operand}{k:IntKind}{m n:Int}(hx:st.eval x=.t (.int k m))(hy:st.eval y=.t (.int k n)):QV P ⟨d,.binOp .lss tx x y tY,ty,none⟩ (.t (.bool (decide (m<n)))) st:=
 O.qxz hx hy (.bool (decide (m<n))) (fun w=>⟨.bool (decide (m<n)),by simp[binOp,Op.intCmp],fun F w=>rfl⟩)
theorem O.leq{tx tY:TypeId}{x y:Operand}{k:IntKind}{m n:Int}(hx:st.eval x=.t (.int k m))(hy:st.eval y=.t (.int k n)):QV P ⟨d,.binOp .leq tx x y tY,ty,none⟩ (.t (.bool (decide (m<=n)))) st:=
 O.qxz hx hy (.bool (decide (m<=n))) (fun w=>⟨.bool (decide (m<=n)),by simp[binOp,Op.intCmp],fun F w=>rfl⟩)
theorem O.gtr{tx tY:TypeId}{x y:Operand}{k:IntKind}{m n:Int}(hx:st.eval x=.t (.int k m))(hy:st.eval y=.t (.int k n)):QV P ⟨d,.binOp .gtr tx x y tY,ty,none⟩ (.t (.bool (decide (n<m)))) st:=
 O.qxz hx hy (.bool (decide (n<m))) (fun w=>⟨.bool (decide (n<m)),by simp[binOp,Op.intCmp],fun F w=>rfl⟩)
theorem O.geq{tx tY:TypeId}{x y:Operand}{k:IntKind}{m n:Int}(hx:st.eval x=.t (.int k m))(hy:st.eval y=.t (.int k n)):QV P ⟨d,.binOp .geq tx x y tY,ty,none⟩ (.t (.bool (decide (n<=m)))) st:=
 O.qxz hx hy (.bool (decide (n<=m))) (fun w=>⟨.bool (decide (n<=m)),by simp[binOp,Op.intCmp],fun F w=>rfl⟩)
theorem O.eql{tx tY:TypeId}{x y:Operand}{k:IntKind}{m n:Int}(hx:st.eval x=.t (.int k m))(hy:st.eval y=.t (.int k n)):QV P ⟨d,.binOp .eql tx x y tY,ty,none⟩ (.t (.bool (decide (m=n)))) st:=
 O.qxz hx hy (.bool (decide (m=n))) (fun w=>⟨.bool (decide (m=n)),by simp[binOp,Op.intCmp];first|rfl|(congr 1;rw[Bool.eq_iff_iff];simp),fun F w=>rfl⟩)
theorem O.neq{tx tY:TypeId}{x y:Operand}{k:IntKind}{m n:Int}(hx:st.eval x=.t (.int k m))(hy:st.eval y=.t (.int k n)):QV P ⟨d,.binOp .neq tx x y tY,ty,none⟩ (.t (.bool (!decide (m=n)))) st:=
 O.qxz hx hy (.bool (!decide (m=n))) (fun w=>⟨.bool (!decide (m=n)),by simp[binOp,Op.intCmp];first|rfl|(congr 1;rw[Bool.eq_iff_iff];simp),fun F w=>rfl⟩)
theorem O.not{t':TypeId}{x:Operand}{b:Bool}(hx:st.eval x=.t (.bool b)):QV P ⟨d,.unOp .not t' x,ty,none⟩ (.t (.bool (!b))) st:=
 fun E M F a w r=>⟨.bool (!b),by simp[execOp,GOp.oper,qhc r hx,Op.unary],rfl⟩
theorem O.neg{t':TypeId}{x:Operand}{k:IntKind}{n:Int}(hx:st.eval x=.t (.int k n)){z:Int}(hz:k.wrap (0-n)=z):QV P ⟨d,.unOp .neg t' x,ty,none⟩ (.t (.int k z)) st:=
 fun E M F a w r=>⟨.int k z,by simp[execOp,GOp.oper,qb5 r hx,Op.unary,Op.intArith,<- hz],rfl⟩
theorem O.zfh{t':TypeId}{x:Operand}{k:IntKind}{n:Int}(hx:st.eval x=.t (.int k n)):QV P ⟨d,.unOp .xor t' x,ty,none⟩ (.t (.int k (qss .xor k (if k.signed then -1 else k.max) n))) st:=
 fun E M F a w r=>⟨_,by simp[execOp,GOp.oper,qb5 r hx,Op.unary,Op.intBits];rfl,rfl⟩
theorem qai{t:TypeId}{d:TypeDesc}(h:P.underlying t=some d)(w:World):(underlying t).run P w=.ok d w:=by
 simp[underlying,h]
theorem O.qt0{src dst:TypeId}{x:Operand}{k k':IntKind}{n:Int}{sd:TypeDesc}[hs:qdx P src sd][hd:qdx P dst (.int k')](hx:st.eval x=.t (.int k n)){z:Int}(hz:k'.wrap n=z):QV P ⟨d,.convert src dst x,ty,none⟩ (.t (.int k' z)) st:=
 fun E M F a w r=>⟨.int k' z,by
  simp[execOp,GOp.oper,qb5 r hx,convert,qai hs.d,qai hd.d,Conv.intToInt,hz],rfl⟩
theorem qr3{t:TypeId}{agg:Bool}{s:Nat}[h:qb6 P t agg s](w:World):(isAgg t).run P w=.ok agg w:=by
 obtain⟨d,hd,ha⟩:=h.d;unfold isAgg;rw[Sem.run_bind,qai hd];subst ha;cases d<;>rfl
theorem qhh{t:TypeId}{agg:Bool}{s:Nat}[h:qb6 P t agg s](w:World):(sizeOf t).run P w=.ok s w:=by
 have hs:=h.s;cases hq:P.info? t with
 |none=>simp[hq]at hs
 |some i=>simp[hq]at hs;simp[sizeOf,typeInfo,hq,hs]
theorem qi0{t:TypeId}{s:Nat}[h:qb6 P t false s]{w:World}{b o:Nat}{c:Value}(hc:w.cell? ⟨b,o,none⟩=some c) :
  (Instr.loadAt t (.pointer (some ⟨b,o,none⟩))).run P w=.ok c w:=by
 simp[Instr.loadAt,Instr.sureAddr,loadVar,qr3 (P:=P) (t:=t),hc]
theorem qkh{t:TypeId}{s:Nat}[h:qb6 P t true s]{w:World}{b o:Nat}{cs:List Value}(hl:cs.length=s)(hc:∀j v,cs[j]?=some v->w.cell? ⟨b,o+j,none⟩=some v) :
  (Instr.loadAt t (.pointer (some ⟨b,o,none⟩))).run P w=.ok (.agg cs.toArray) w:=by
 obtain⟨d,hd,ha⟩:=h.d;exact run_loadAt_mid w b o t cs d hc hd ha (by rw[hl];exact h.s)
theorem qv1{p:Nat->Value->Prop}:∀n,(∀j,j<n->∃c,p j c)->∃cs:List Value,cs.length=n/\∀j v,cs[j]?=some v->p j v
 |0,_=>⟨[],rfl,fun j v h=>by simp at h⟩
 |n+1,h=>by
  obtain⟨cs,hl,hp⟩:=qv1 (p:=p) n (fun j hj=>h j (by omega));obtain⟨c,hc⟩:=h n (by omega);refine⟨cs++[c],by simp[hl],fun j v hv=>?_⟩;by_cases hj:j<n
  ·rw[ziz (by omega)]at hv;exact hp j v hv
  ·rw[List.getElem?_append_right (by omega)]at hv;have:j=n:=by
    have:=(zi0.1 hv).1;simp[hl]at this;omega
   subst this;simp[hl]at hv;subst hv;exact hc
theorem O.q8s{t:TypeId}{s:Nat}[qb6 P t false s]{x:Operand}{m:Nat}{get:Nat->T}(hx:st.eval x=.fp m get)(hm:Nat.blt 0 m=true):QV P ⟨d,.load t x,ty,none⟩ (.t (get 0)) st:=
 fun E M F a w r=>by
  have h:=r.eval x;rw[hx]at h;obtain⟨b,o,h1,h2,h3⟩:=h;obtain⟨c,hc1,hc2⟩:=h3 0 (zg4 hm);exact⟨c,by simp only[execOp,GOp.oper,h1,Sem.run_bind,qi0 (P:=P) (t:=t) (by simpa using hc1),Result.andThen_ok];rfl,hc2⟩
theorem O.q0j{t:TypeId}{s:Nat}[qb6 P t true s]{x:Operand}{m:Nat}{get:Nat->T}(hx:st.eval x=.fp m get)(hm:Nat.ble s m=true):QV P ⟨d,.load t x,ty,none⟩ (.agg s (fun j=>.t (get j))) st:=
 fun E M F a w r=>by
  have h:=r.eval x;rw[hx]at h;obtain⟨b,o,h1,h2,h3⟩:=h;have hm:=zg4 hm;obtain⟨cs,hl,hp⟩:=qv1 (p:=fun j c=>w.cell? ⟨b,o+j,none⟩=some c/\Reads F w (get j) c) s (fun j hj=>h3 j (by omega));refine⟨.agg cs.toArray,by simp only[execOp,GOp.oper,h1,Sem.run_bind,qkh (P:=P) (t:=t) hl (fun j v hv=>(hp j v hv).1),Result.andThen_ok];rfl,cs.toArray,rfl,by simp[hl],fun j hj=>?_⟩
  have hj':j<cs.length:=by omega
  have hr:=(hp j cs[j] (zhb hj')).2;exact⟨cs[j],by simp[hj'],hr.plain,hr⟩
theorem qgg{E:Env}{M:Id->Option Nat}{F:Nat->Prop}{a:Act}{w:World}(r:Rel E M F st a w){x:Operand}{id:Id}{ver rr c:Nat}{o:qcu}
  (hx:st.eval x=.ptr id ver rr c) (ho:st.heap.slot id=.live o) (hv:ver=o.ver) :
  ∃b,M id=some b/\a.eval x=.pointer (some ⟨b,rr*o.sz+c,none⟩):=by
 have h:=r.eval x;rw[hx]at h;have h2:=h.2;rw[ho]at h2;exact h2.2 hv
theorem qdm{E:Env}{M:Id->Option Nat}{F:Nat->Prop}{H:qbe}{w:World}(r:qc4 E M F H w){id:Id}{b:Nat}{o:qcu}(ho:H.slot id=.live o)(hb:M id=some b) :
  ∃cur,w.heap[b]?=some (.cells cur o.elem (0,0))/\o.n*o.sz<=cur.size/\∀i,i<o.n->∀j,j<o.sz->∃c,w.cell? ⟨b,i*o.sz+j,none⟩=some c/\cur[i*o.sz+j]?=some c/\c.oneCell'=true/\qay H M F w (o.get i j) c:=by
 have h:=(r.obj id o ho).2;rw[hb]at h;obtain⟨cur,h1,h2,h3⟩:=h;refine⟨cur,h1,h2,fun i hi j hj=>?_⟩;obtain⟨c,a,b,d⟩:=h3 i hi j hj;exact⟨c,by simp[World.cell?,h1,a],a,b,d⟩
theorem O.q4s{t:TypeId}{s:Nat}[qb6 P t false s]{x:Operand}{id:Id}{ver rr c:Nat}{o:qcu}(hx:st.eval x=.ptr id ver rr c)(ho:st.heap.slot id=.live o)
  (hv:ver=o.ver) (hr:rr<o.n) (hc:c<o.sz):QV P ⟨d,.load t x,ty,none⟩ (o.get rr c) st:=
 fun E M F a w r=>by
  obtain⟨b,hb,he⟩:=qgg r hx ho hv;obtain⟨cur,h1,h2,h3⟩:=qdm r.h ho hb;obtain⟨u,hu1,hu2,hu3,hu4⟩:=h3 rr hr c hc;exact⟨u,by simp only[execOp,GOp.oper,he,Sem.run_bind,qi0 (P:=P) (t:=t) hu1,Result.andThen_ok];rfl,hu4⟩
theorem O.qrx{t:TypeId}{s:Nat}[qb6 P t true s]{x:Operand}{id:Id}{ver rr c:Nat}{o:qcu}(hx:st.eval x=.ptr id ver rr c)(ho:st.heap.slot id=.live o)
  (hv:ver=o.ver) (hr:rr<o.n) (hc:c+s<=o.sz):QV P ⟨d,.load t x,ty,none⟩ (.agg s (fun j=>o.get rr (j+c))) st:=
 fun E M F a w r=>by
  obtain⟨b,hb,he⟩:=qgg r hx ho hv;obtain⟨cur,h1,h2,h3⟩:=qdm r.h ho hb;obtain⟨cs,hl,hp⟩:=qv1 (p:=fun j u=>w.cell? ⟨b,rr*o.sz+c+j,none⟩=some u/\u.oneCell'=true/\qay st.heap M F w (o.get rr (j+c)) u) s (fun j hj=>by
   obtain⟨u,hu1,hu2,hu3,hu4⟩:=h3 rr hr (j+c) (by omega);exact⟨u,by rw[show rr*o.sz+c+j=rr*o.sz+(j+c)by omega];exact hu1,hu3,hu4⟩)
  refine⟨.agg cs.toArray,by simp only[execOp,GOp.oper,he,Sem.run_bind,qkh (P:=P) (t:=t) hl (fun j v hv=>(hp j v hv).1),Result.andThen_ok];rfl,cs.toArray,rfl,by simp[hl],fun j hj=>?_⟩
  have hj':j<cs.length:=by omega
  have hr:=hp j cs[j] (zhb hj');exact⟨cs[j],by simp[hj'],hr.2.1,hr.2.2⟩
theorem qgm(b o n:Nat):(⟨b,o,none⟩:Addr).add n=⟨b,o+n,none⟩:=by unfold Addr.add;split<;>simp_all
theorem qm2{t f off s:Nat}{agg:Bool}[h:qan P t f off agg s]{w:World}{b o:Nat} :
  (Instr.fieldAt t (.pointer (some ⟨b,o,none⟩)) f).run P w=.ok (.pointer (some ⟨b,o+off,none⟩)) w:=by
 obtain⟨fs,fl,h1,h2,h3,h4⟩:=h.d;have hs:=qhh (P:=P) (t:=fl.type) w;have h0:=h.s;simp[Instr.fieldAt,qai h1,h2,Instr.sureAddr,fieldPlace,hs,h0,h3,qgm]
theorem O.q1c{t f off s:Nat}{agg:Bool}[qan P t f off agg s]{x:Operand}{m:Nat}{get:Nat->T}(hx:st.eval x=.fp m get):QV P ⟨d,.fieldAddr t x f,ty,none⟩ (.fp (m-off) (fun j=>get (j+off))) st:=
 fun E M F a w r=>by
  have h:=r.eval x;rw[hx]at h;obtain⟨b,o,h1,h2,h3⟩:=h;refine⟨_,by simp only[execOp,GOp.oper,h1,Sem.run_bind,qm2 (P:=P) (t:=t) (f:=f),Result.andThen_ok];rfl,b,o+off,rfl,h2,fun j hj=>?_⟩
  obtain⟨c,hc1,hc2⟩:=h3 (j+off) (by omega);exact⟨c,by rw[show o+off+j=o+(j+off)by omega];exact hc1,hc2⟩
theorem O.q1b{t f off s:Nat}{agg:Bool}[qan P t f off agg s]{x:Operand}{id:Id}{ver rr c:Nat}{o:qcu}(hx:st.eval x=.ptr id ver rr c)(ho:st.heap.slot id=.live o)(hv:ver=o.ver):QV P ⟨d,.fieldAddr t x f,ty,none⟩ (.ptr id ver rr (c+off)) st:=
 fun E M F a w r=>by
  obtain⟨b,hb,he⟩:=qgg r hx ho hv;refine⟨_,by simp only[execOp,GOp.oper,he,Sem.run_bind,qm2 (P:=P) (t:=t) (f:=f),Result.andThen_ok];rfl,rfl,?_⟩
  rw[ho];exact⟨by omega,fun _=>⟨b,hb,by rw[Nat.add_assoc]⟩⟩
theorem q7t{t e:TypeId}{s by_:Nat}[h:qb2 P t e s by_](w:World):(sizeOf e).run P w=.ok s w:=by
 have hs:=h.s;cases hq:P.info? e with
 |none=>simp[hq]at hs
 |some i=>simp[hq]at hs;simp[sizeOf,typeInfo,hq,hs.1]
theorem qmt{t e:TypeId}{s by_:Nat}[h:qb2 P t e s by_]{w:World}{b o n cap:Nat}{k:IntKind}{i:Int}(h0:0<=i)(h1:i<n) :
  (Instr.indexAt t (.slice (some ⟨b,o,none⟩) n cap) (.int k i)).run P w=.ok (.pointer (some ⟨b,o+i.toNat*s,none⟩)) w:=by
 simp[Instr.indexAt,asIntOf,qai h.d,h0,h1,q7t (P:=P) (t:=t),qgm]
theorem O.qvy{t e:TypeId}{s by_:Nat}[qb2 P t e s by_]{x y:Operand}{n:Nat}{get:Nat->Nat->T}{k:IntKind}{i:Int}
  (hx:st.eval x=.t (.sl s n get)) (hy:st.eval y=.t (.int k i)) (h0:0<=i) (h1:i<n):QV P ⟨d,.indexAddr t x y,ty,none⟩ (.fp s (get i.toNat)) st:=
 fun E M F a w r=>by
  have h:=r.eval x;rw[hx]at h;obtain⟨A,cap,g1,g2,g3,g4⟩:=h;obtain⟨b,o,rfl,hb,hc⟩:=g4 (by omega);refine⟨_,by simp only[execOp,GOp.oper,g1,qb5 r hy,Sem.run_bind,qmt (P:=P) (t:=t) h0 h1,Result.andThen_ok];rfl,b,_,rfl,hb,fun j hj=>?_⟩
  obtain⟨c,hc1,hc2⟩:=hc i.toNat (by omega) j hj;exact⟨c,by rw[Nat.add_assoc];exact hc1,hc2⟩
theorem qi1{E:Env}{M:Id->Option Nat}{F:Nat->Prop}{a:Act}{w:World}(r:Rel E M F st a w){x:Operand}{id:Id}{ver rr len:Nat}{o:qcu}
  (hx:st.eval x=.qbq id ver rr len) (ho:st.heap.slot id=.live o) (hv:ver=o.ver) :
  rr+len<=o.n/\∃A cap,a.eval x=.slice A len cap/\len<=cap /\
     (0<cap->∃b cur,M id=some b/\A=some ⟨b,rr*o.sz,none⟩/\w.heap[b]?=some (.cells cur o.elem (0,0))/\rr*o.sz+cap*o.sz<=cur.size):=by
 have h:=r.eval x;rw[hx]at h;have h2:=h.2;rw[ho]at h2;exact h2.2 hv
theorem O.qr5{t e:TypeId}{s by_:Nat}[qb2 P t e s by_]{x y:Operand}{id:Id}{ver rr len:Nat}{o:qcu}{k:IntKind}{i:Int}
  (hx:st.eval x=.qbq id ver rr len) (ho:st.heap.slot id=.live o) (hv:ver=o.ver) (hs:o.sz=s) (hy:st.eval y=.t (.int k i)) (h0:0<=i) (h1:i<len):QV P ⟨d,.indexAddr t x y,ty,none⟩ (.ptr id ver (i.toNat+rr) 0) st:=
 fun E M F a w r=>by
  obtain⟨g0,A,cap,g1,g2,g4⟩:=qi1 r hx ho hv;obtain⟨b,cur,hb,rfl,hh,hsz⟩:=g4 (by omega);refine⟨_,by simp only[execOp,GOp.oper,g1,qb5 r hy,Sem.run_bind,qmt (P:=P) (t:=t) h0 h1,Result.andThen_ok];rfl,rfl,?_⟩
  rw[ho];refine⟨by omega,fun _=>⟨b,hb,?_⟩⟩;rw[hs,zim,zh3,zil]
theorem O.qqa{t:TypeId}[h:qdx P t .string]{x y:Operand}{s:ByteArray}{k:IntKind}{i:Int}
  (hx:st.eval x=.t (.str s)) (hy:st.eval y=.t (.int k i)) (h0:0<=i) (h1:i.toNat<s.size):QV P ⟨d,.index t x y,ty,none⟩ (.t (.int .u8 ((s[i.toNat]'h1).toNat:Int))) st:=
 fun E M F a w r=>by
  have hr:=r.eval x;rw[hx]at hr;have e:s[i.toNat]?=some (s[i.toNat]'h1):=by simp[h1]
  exact⟨_,by simp[execOp,GOp.oper,hr.1,qb5 r hy,Instr.index,asIntOf,qai h.d,h0,e],rfl⟩
theorem O.ze0{t:TypeId}{e:TypeId}{s by_:Nat}[h:qb2 P t e s by_]{x:Operand}{sz n:Nat}{get:Nat->Nat->T}(hx:st.eval x=.t (.sl sz n get)) :
  QV P ⟨d,.call { callee:=.builtin .len,args:=#[x],argTypes:=#[t] },ty,none⟩ (.t (.int .i64 n)) st:=fun E M F a w r=>by
 have hr:=r.eval x;rw[hx]at hr;obtain⟨A,cap,g1,g2,g3,g4⟩:=hr;exact⟨_,by simp[execOp,GOp.oper,resolve,invoke,builtin,Builtin.len_,qai h.d,g1,goInt],rfl⟩
theorem O.zez{t:TypeId}{e:TypeId}{s by_:Nat}[h:qb2 P t e s by_]{x:Operand}(hx:st.eval x=.qby) :
  QV P ⟨d,.call { callee:=.builtin .len,args:=#[x],argTypes:=#[t] },ty,none⟩ (.t (.int .i64 0)) st:=fun E M F a w r=>by
 have hr:=r.eval x;rw[hx]at hr;have hr':a.eval x=.slice none 0 0:=hr;exact⟨_,by simp[execOp,GOp.oper,resolve,invoke,builtin,Builtin.len_,qai h.d,hr',goInt],rfl⟩
theorem O.zdj{t:TypeId}{e:TypeId}{s by_:Nat}[h:qb2 P t e s by_]{x:Operand}{id:Id}{ver rr len:Nat}{o:qcu}(hx:st.eval x=.qbq id ver rr len)(ho:st.heap.slot id=.live o)(hv:ver=o.ver) :
  QV P ⟨d,.call { callee:=.builtin .len,args:=#[x],argTypes:=#[t] },ty,none⟩ (.t (.int .i64 len)) st:=fun E M F a w r=>by
 obtain⟨g0,A,cap,g1,g2,g4⟩:=qi1 r hx ho hv;exact⟨_,by simp[execOp,GOp.oper,resolve,invoke,builtin,Builtin.len_,qai h.d,g1,goInt],rfl⟩
theorem O.q0o{t:TypeId}[h:qdx P t .string]{x:Operand}{s:ByteArray}(hx:st.eval x=.t (.str s)) :
  QV P ⟨d,.call { callee:=.builtin .len,args:=#[x],argTypes:=#[t] },ty,none⟩ (.t (.int .i64 s.size)) st:=fun E M F a w r=>by
 have hr:=r.eval x;rw[hx]at hr;exact⟨_,by simp[execOp,GOp.oper,resolve,invoke,builtin,Builtin.len_,qai h.d,hr.1,goInt],rfl⟩
theorem O.extract{x:Operand}{i n:Nat}{get:Nat->V}(hx:st.eval x=.tup n get)(hi:Nat.blt i n=true):QV P ⟨d,.extract x i,ty,none⟩ (get i) st:=
 fun E M F a w r=>by
  have hr:=r.eval x;rw[hx]at hr;obtain⟨cs,h1,h2,h3⟩:=hr;obtain⟨c,hc1,hc2⟩:=h3 i (zg4 hi);exact⟨c,by simp[execOp,GOp.oper,h1,Instr.extract,hc1],hc2⟩
theorem O.qmb{x:Operand}{id:Id}{ver rr c:Nat}{o:qcu}(hx:st.eval x=.ptr id ver rr c)(ho:st.heap.slot id=.live o)(hv:ver=o.ver):QV P ⟨d,.nilCheck x,ty,none⟩ (.ptr id ver rr c) st:=
 fun E M F a w r=>by
  obtain⟨b,hb,he⟩:=qgg r hx ho hv;have hr:=r.eval x;rw[hx]at hr;exact⟨a.eval x,by simp[execOp,GOp.oper,he],hr⟩
theorem O.qmc{x:Operand}{m:Nat}{get:Nat->T}(hx:st.eval x=.fp m get):QV P ⟨d,.nilCheck x,ty,none⟩ (.fp m get) st:=
 fun E M F a w r=>by
  have hr:=r.eval x;rw[hx]at hr;have hr2:=hr;obtain⟨b,o,h1,h2,h3⟩:=hr;exact⟨a.eval x,by simp[execOp,GOp.oper,h1],hr2⟩
theorem O.q61{t f off s:Nat}[h:qan P t f off false s]{x:Operand}{n:Nat}{get:Nat->V}(hx:st.eval x=.agg n get)(hn:Nat.blt off n=true):QV P ⟨d,.field t x f,ty,none⟩ (get off) st:=
 fun E M F a w r=>by
  have hr:=r.eval x;rw[hx]at hr;obtain⟨cs,h1,h2,h3⟩:=hr;obtain⟨c,hc1,hc2,hc3⟩:=h3 off (zg4 hn);obtain⟨fs,fl,g1,g2,g3,g4⟩:=h.d;exact⟨c,by simp[execOp,GOp.oper,h1,Instr.field,qai g1,g2,g3,asAgg,part,qr3 (P:=P) (t:=fl.type),hc1],hc3⟩
end Go.Abs
namespace Go.Abs
open Go
variable {P:Program} {Q:Exit->St->Prop} {st:St} {L:List GOp} {d:Option Tmp} {ty:TypeId}
def qbe.add(H:qbe)(o:qcu):qbe:={ next:=H.next+1,slot:=fun i=>bif Id.beq i ⟨H.next,[]⟩then .live o else H.slot i,lo:=H.lo }
def qbe.set(H:qbe)(id:Id)(o:qcu):qbe:={ H with slot:=fun i=>bif Id.beq i id then .live o else H.slot i }
def upd(M:Id->Option Nat)(id:Id)(b:Nat):Id->Option Nat:=fun i=>if i=id then some b else M i
theorem qef(i id:Id)(x y:Slot):(bif Id.beq i id then x else y)=if i=id then x else y:=by
 by_cases h:i=id
 ·subst h;simp[Id.beq_refl]
 ·have:Id.beq i id=false:=by
   cases hb:Id.beq i id with
   |false=>rfl
   |true=>exact absurd (Id.beq_iff.1 hb) h
  simp[this,h]
theorem qc4.step{E:Env}{M:Id->Option Nat}{F:Nat->Prop}{H:qbe}{w:World}(r:qc4 E M F H w)(id:Id)(b:Nat)(o':qcu)(cur':Array Value)(w':World)(H':qbe)
  (hH:∀i,H'.slot i=if i=id then .live o' else H.slot i) (hn:∀i,H'.next<=i.k->i≠id/\H.next<=i.k) (hlo:H'.lo=H.lo)
  (hos:w'.os=w.os) (htape:w'.tape=w.tape) (hout:w'.output=w.output) (hsz:w.heap.size<=w'.heap.size) (hoth:∀k,k≠b->k<w.heap.size->w'.heap[k]?=w.heap[k]?)
  (hb':w'.heap[b]?=some (.cells cur' o'.elem (0,0)))
  (hfresh:b=w.heap.size\/(M id=some b/\(H.slot id).is))
  (hlen:o'.n<=LEN) (hcs:o'.n*o'.sz<=cur'.size)
  (hcell:∀i,i<o'.n->∀j,j<o'.sz->∃c,cur'[i*o'.sz+j]?=some c/\c.oneCell'=true/\qay H M F w (o'.get i j) c)
  (hslot:match H.slot id with
   |.qae=>True
   |.live o=>o.ver<=o'.ver/\(o.ver=o'.ver->o'.sz=o.sz/\o'.elem=o.elem/\o.n<=o'.n/\M id=some b/\∀cur,w.heap[b]?=some (.cells cur o.elem (0,0))->cur'.size=cur.size)
   | _=>False) :
  qc4 E (upd M id b) F H' w'/\Ext H M F w H' (upd M id b) F w':=by
 have hbF:¬ F b:=by
  rcases hfresh with h|⟨h1,h2⟩
  ·intro hf;have:=r.qno b hf;omega
  ·exact r.qto id b h2 h1
 have hF:∀k,F k->w'.heap[k]?=w.heap[k]?:=fun k hk=>hoth k (fun e=>hbF (e▸hk)) (r.qno k hk);have hne:∀i k,i≠id->(H.slot i).is->M i=some k->k≠b:=by
  intro i k hi hl hk e;subst e;rcases hfresh with h|⟨h1,h2⟩
  ·have:=r.lt i k hl hk;omega
  ·exact hi (r.inj i id k hl h2 hk h1)
 have ho:∀i k,i≠id->(H.slot i).is->M i=some k->w'.heap[k]?=w.heap[k]?:=fun i k hi hl hk=>hoth k (hne i k hi hl hk) (r.lt i k hl hk);have hx:Ext H M F w H' (upd M id b) F w':=by
  refine Ext.of (fun _ h=>h) hF fun i=>?_;unfold qf5;by_cases hi:i=id
  ·subst hi;rw[hH,if_pos rfl];cases hs:H.slot i with
   |qae=>trivial
   |dead=>rw[hs]at hslot;exact hslot.elim
   |mp _ _=>rw[hs]at hslot;exact hslot.elim
   |live o=>
    rw[hs]at hslot;simp only at hslot ⊢;refine .inr ⟨o',rfl,hslot.1,fun he=>?_⟩;obtain⟨k1,k2,k3,k4,k5⟩:=hslot.2 he;refine⟨k1,k2,k3,by simp[upd,k4],fun b0 cur hb0 hcur=>?_⟩;have:b0=b:=by rw[k4]at hb0;exact(Option.some.inj hb0).symm
    subst this;exact⟨cur',by rw[<- k2];exact hb',k5 cur hcur⟩
  ·rw[hH,if_neg hi];cases hs:H.slot i with
   |qae=>trivial
   |dead=>rfl
   |mp s g=>exact .inr ⟨⟨s,g,rfl⟩,by simp[upd,hi]⟩
   |live o=>
    refine .inr ⟨o,rfl,zg3 _,fun _=>⟨rfl,rfl,zg3 _,by simp[upd,hi],fun b0 cur hb0 hcur=>⟨cur,?_,rfl⟩⟩⟩;rw[ho i b0 hi (by rw[hs];trivial) hb0];exact hcur
 have hid:(H'.slot id)=.live o':=by rw[hH,if_pos rfl]
 have hwas:∀i,i≠id->(H'.slot i).is->(H.slot i).is:=fun i hi h=>by rw[hH,if_neg hi]at h;exact h
 have hι:∀i,i≠id->upd M id b i=M i:=fun i hi=>by simp[upd,hi]
 have hιd:upd M id b id=some b:=by simp[upd]
 have hblt:b<w'.heap.size:=(zic.1 hb').1;refine⟨⟨hos.trans r.os,htape.trans r.tape,hout.trans r.output,zhy r.size hsz,fun k hk hW=>?_,fun i o hi=>?_,fun i s g hi=>?_,fun i i' k hi hi' hk hk'=>?_,fun i k hi hk=>?_,
  fun i k hi hk=>?_,fun i k hi hk=>?_,fun k hk=>zid (r.qno k hk) hsz,r.qxc,fun i hi=>?_,r.ext.trans hx,by rw[hlo];exact r.lo⟩,hx⟩
 ·have hkb:k≠b:=by
   intro e;subst e;rcases hfresh with h|⟨h1,h2⟩
   ·have:=r.size;omega
   ·rcases r.own id k h2 h1 with h|h
    ·exact hW h
    ·omega
  rw[hoth k hkb (zid hk r.size)];exact r.kept k hk hW
 ·by_cases h:i=id
  ·subst h;rw[hid]at hi;injection hi with hi;subst hi;refine⟨hlen,?_⟩;rw[hιd];exact⟨cur',hb',hcs,fun i hi j hj=>by obtain⟨c,a,b,d⟩:=hcell i hi j hj;exact⟨c,a,b,hx _ _ d⟩⟩
  ·rw[hH,if_neg h]at hi;obtain⟨h1,h2⟩:=r.obj i o hi;refine⟨h1,?_⟩;rw[hι i h];cases hk:M i with
   |none=>rw[hk]at h2;exact h2
   |some k=>
    rw[hk]at h2;obtain⟨cur,g1,g2,g3⟩:=h2;exact⟨cur,by rw[ho i k h (by rw[hi];trivial) hk];exact g1,g2,fun i hi j hj=>by obtain⟨c,a,b,d⟩:=g3 i hi j hj;exact⟨c,a,b,hx _ _ d⟩⟩
 ·have h:i≠id:=fun e=>by subst e;rw[hid]at hi;cases hi
  rw[hH,if_neg h]at hi;obtain⟨k,es,clock,g1,g2,g3,g4⟩:=r.qxx i s g hi;refine⟨k,es,clock,by rw[hι i h];exact g1,by rw[ho i k h (by rw[hi];trivial) g1];exact g2,g3,fun key hkey=>?_⟩
  have:=g4 key hkey;cases hg:g key with
  |none=>rw[hg]at this;exact this
  |some u=>rw[hg]at this;obtain⟨n,e,a,b,c⟩:=this;exact⟨n,e,a,b,hx _ _ c⟩
 ·by_cases h:i=id
  ·by_cases h':i'=id
   ·exact h.trans h'.symm
   ·subst h;rw[hιd]at hk;rw[hι i' h']at hk';exact absurd (Option.some.inj hk).symm (hne i' k h' (hwas i' h' hi') hk')
  ·by_cases h':i'=id
   ·subst h';rw[hιd]at hk';rw[hι i h]at hk;exact absurd (Option.some.inj hk').symm (hne i k h (hwas i h hi) hk)
   ·rw[hι i h]at hk;rw[hι i' h']at hk';exact r.inj i i' k (hwas i h hi) (hwas i' h' hi') hk hk'
 ·by_cases h:i=id
  ·subst h;rw[hιd]at hk;rw[<- Option.some.inj hk];exact hbF
  ·rw[hι i h]at hk;exact r.qto i k (hwas i h hi) hk
 ·by_cases h:i=id
  ·subst h;rw[hιd]at hk;rw[<- Option.some.inj hk];rcases hfresh with h|⟨h1,h2⟩
   ·right;rw[h];exact r.size
   ·exact r.own i b h2 h1
  ·rw[hι i h]at hk;exact r.own i k (hwas i h hi) hk
 ·by_cases h:i=id
  ·subst h;rw[hιd]at hk;rw[<- Option.some.inj hk];exact hblt
  ·rw[hι i h]at hk;exact zid (r.lt i k (hwas i h hi) hk) hsz
 ·obtain⟨h1,h2⟩:=hn i hi;rw[hH,if_neg h1];exact r.next i h2
theorem qc4.same{E:Env}{M:Id->Option Nat}{F:Nat->Prop}{H:qbe}{w w':World}(r:qc4 E M F H w)(hos:w'.os=w.os)(htape:w'.tape=w.tape)(hout:w'.output=w.output)(hh:w'.heap=w.heap) :
  qc4 E M F H w'/\Ext H M F w H M F w':=by
 have hx:Ext H M F w H M F w':=Ext.of (fun _ h=>h) (fun b _=>by rw[hh]) fun i=>by
  unfold qf5;cases hs:H.slot i with
  |qae=>trivial
  |dead=>rfl
  |mp s g=>exact .inr ⟨⟨s,g,rfl⟩,rfl⟩
  |live o=>exact .inr ⟨o,rfl,zg3 _,fun _=>⟨rfl,rfl,zg3 _,rfl,fun b cur hb hc=>⟨cur,by rw[hh];exact hc,rfl⟩⟩⟩
 refine⟨⟨hos.trans r.os,htape.trans r.tape,hout.trans r.output,by rw[hh];exact r.size,fun k hk hW=>by rw[hh];exact r.kept k hk hW,fun i o hi=>?_,fun i s g hi=>?_,r.inj,r.qto,r.own,fun i k hi hk=>by rw[hh];exact r.lt i k hi hk,
  fun k hk=>by rw[hh];exact r.qno k hk,r.qxc,r.next,r.ext.trans hx,r.lo⟩,hx⟩
 ·obtain⟨h1,h2⟩:=r.obj i o hi;refine⟨h1,?_⟩;cases hk:M i with
  |none=>rw[hk]at h2;exact h2
  |some k=>
   rw[hk]at h2;obtain⟨cur,g1,g2,g3⟩:=h2;exact⟨cur,by rw[hh];exact g1,g2,fun i hi j hj=>by obtain⟨c,a,b,d⟩:=g3 i hi j hj;exact⟨c,a,b,hx _ _ d⟩⟩
 ·obtain⟨k,es,clock,g1,g2,g3,g4⟩:=r.qxx i s g hi;refine⟨k,es,clock,g1,by rw[hh];exact g2,g3,fun key hkey=>?_⟩
  have:=g4 key hkey;cases hg:g key with
  |none=>rw[hg]at this;exact this
  |some u=>rw[hg]at this;obtain⟨n,e,a,b,c⟩:=this;exact⟨n,e,a,b,hx _ _ c⟩
theorem qc4.alloc{E:Env}{M:Id->Option Nat}{F:Nat->Prop}{H:qbe}{w:World}(r:qc4 E M F H w)(o:qcu)(cs:Array Value)
  (hlen:o.n<=LEN) (hcs:o.n*o.sz<=cs.size) (hcell:∀i,i<o.n->∀j,j<o.sz->∃c,cs[i*o.sz+j]?=some c/\c.oneCell'=true/\qay H M F w (o.get i j) c) :
  qc4 E (upd M ⟨H.next,[]⟩ w.heap.size) F (H.add o) (w.alloc (.cells cs o.elem))/\Ext H M F w (H.add o) (upd M ⟨H.next,[]⟩ w.heap.size) F (w.alloc (.cells cs o.elem)):=by
 refine r.step ⟨H.next,[]⟩ w.heap.size o cs _ _ (fun i=>by simp only[qbe.add];exact qef _ _ _ _) (fun i hi=>?_) rfl rfl rfl rfl (by simp) (fun k hk hlt=>?_) ?_ (.inl rfl) hlen hcs hcell ?_
 ·simp only[qbe.add]at hi;exact⟨fun e=>by subst e;simp at hi;omega,by omega⟩
 ·simp only[World.alloc,Array.getElem?_push];rw[if_neg (by omega)]
 ·show(w.heap.push _)[w.heap.size]?=_;simp
 ·rw[r.next ⟨H.next,[]⟩ (zg3 _)];trivial
def V.boxed(elem:TypeId)(s:Nat)(get:Nat->V):qcu:={ elem:=elem,sz:=s,ver:=0,n:=1,get:=fun _ j=>get j }
theorem qf8(M:Id->Option Nat)(id:Id)(b:Nat):upd M id b id=some b:=by simp[upd]
theorem qbe.qjf(H:qbe)(o:qcu):(H.add o).slot ⟨H.next,[]⟩=.live o:=by simp[qbe.add,Id.beq_refl]
theorem SL.zgv{e:TypeId}{x:Operand}{s:Nat}{get:Nat->V}(hx:st.eval x=.agg s get)
  (hk:SL P L Q ((st.on (st.heap.add (V.boxed e s get))).put d (.ptr ⟨st.heap.next,[]⟩ 0 0 0))):SL P (⟨d,.box e x,ty,none⟩::L) Q st:=
 SL.value rfl fun E M F a w r=>by
  have hr:=r.eval x;rw[hx]at hr;obtain⟨cs,h1,h2,h3⟩:=hr;obtain⟨g1,g2⟩:=r.h.alloc (V.boxed e s get) cs (by simp[V.boxed,LEN]) (by simp[V.boxed,h2]) (fun i hi j hj=>by
   have:i=0:=by simp[V.boxed]at hi;exact hi
   subst this;obtain⟨c,a,b,d⟩:=h3 j hj;exact⟨c,by simpa using a,b,d⟩)
  refine⟨_,_,_,F,_,.ptr ⟨st.heap.next,[]⟩ 0 0 0,by simp only[execOp,GOp.oper,h1,Instr.box,newVar,newRow,Value.cells,Sem.run_bind,run_newObj,Result.andThen_ok,Sem.run_pure];rfl,g1,g2,⟨rfl,?_⟩,hk⟩
  rw[qbe.qjf];exact⟨zg3 _,fun _=>⟨_,qf8 _ _ _,by simp⟩⟩
theorem SL.zgw{e:TypeId}{x:Operand}{u:V}(hx:st.eval x=u)(hp:u.one=true)
  (hk:SL P L Q ((st.on (st.heap.add (V.boxed e 1 (fun _=>u)))).put d (.ptr ⟨st.heap.next,[]⟩ 0 0 0))):SL P (⟨d,.box e x,ty,none⟩::L) Q st:=
 SL.value rfl fun E M F a w r=>by
  have hr:=r.eval x;rw[hx]at hr;have h1:(a.eval x).cells=#[a.eval x]:=by
   have:=V.qg3 hp hr
   cases hv:a.eval x<;>rw[hv]at this<;>first|rfl|(simp[Value.oneCell']at this)
  obtain⟨g1,g2⟩:=r.h.alloc (V.boxed e 1 (fun _=>u)) #[a.eval x] (by simp[V.boxed,LEN]) (by simp[V.boxed]) (fun i hi j hj=>by
   have:i=0:=by simp[V.boxed]at hi;exact hi
   subst this;have:j=0:=by simp[V.boxed]at hj;exact hj
   subst this;exact⟨a.eval x,by simp,V.qg3 hp hr,hr⟩)
  refine⟨_,_,_,F,_,.ptr ⟨st.heap.next,[]⟩ 0 0 0,by simp only[execOp,GOp.oper,Instr.box,newVar,newRow,h1,Sem.run_bind,run_newObj,Result.andThen_ok,Sem.run_pure];rfl,g1,g2,⟨rfl,?_⟩,hk⟩
  rw[qbe.qjf];exact⟨zg3 _,fun _=>⟨_,qf8 _ _ _,by simp⟩⟩
theorem qil{t:TypeId}{v:Value}[h:qbb P t v](w:World):(zeroValue t).run P w=.ok v w:=by
 have hz:=h.z;cases hq:P.info? t with
 |none=>simp[hq]at hz
 |some i=>simp[hq]at hz;simp[zeroValue,typeInfo,hq,hz]
theorem SL.alloc{e:TypeId}{z:Value}[h:qbb P e z](hk:SL P L Q ((st.on (st.heap.add (V.boxed e z.cells.size (fun j=>V.cell (z.cells.getD j undef))))).put d (.ptr ⟨st.heap.next,[]⟩ 0 0 0))) :
  SL P (⟨d,.alloc e,ty,none⟩::L) Q st:=
 SL.value rfl fun E M F a w r=>by
  obtain⟨g1,g2⟩:=r.h.alloc (V.boxed e z.cells.size (fun j=>V.cell (z.cells.getD j undef))) z.cells (by simp[V.boxed,LEN]) (by simp[V.boxed]) (fun i hi j hj=>by
   have:i=0:=by simp[V.boxed]at hi;exact hi
   subst this;have hj':j<z.cells.size:=hj;refine⟨z.cells[j],by simp,zi2.1 h.c _ (Array.getElem_mem hj'),?_⟩;have e:z.cells.getD j undef=z.cells[j]:=by simp[Array.getD,hj']
   show qay _ _ _ _ (V.cell (z.cells.getD j undef)) _;rw[e];exact V.qhp _ _ _ _ _)
  refine⟨_,_,_,F,_,.ptr ⟨st.heap.next,[]⟩ 0 0 0,by simp only[execOp,GOp.oper,Instr.alloc,qil (P:=P) (t:=e),newVar,newRow,Sem.run_bind,run_newObj,Result.andThen_ok,Sem.run_pure];rfl,g1,g2,⟨rfl,?_⟩,hk⟩
  rw[qbe.qjf];exact⟨zg3 _,fun _=>⟨_,qf8 _ _ _,by simp⟩⟩
def qgz(cur:Array Value)(o:Nat):List Value->Array Value
 |[]=>cur
 |v::r=>qgz (cur.setIfInBounds o v) (o+1) r
theorem qgb(cur:Array Value)(o:Nat)(vs:List Value):(qgz cur o vs).size=cur.size:=by
 induction vs generalizing cur o with
 |nil=>rfl
 |cons v r ih=>simp[qgz,ih]
theorem qn7(cur:Array Value)(o:Nat)(vs:List Value)(h:o+vs.length<=cur.size)(j:Nat) :
  (qgz cur o vs)[j]?=if o<=j/\j<o+vs.length then vs[j-o]? else cur[j]?:=by
 induction vs generalizing cur o with
 |nil=>simp[qgz];intro h1 h2;omega
 |cons v r ih=>
  simp only[zg1]at h;rw[qgz,ih _ _ (by simp;omega)]
  by_cases hj:o=j
  ·subst hj;rw[if_neg (by omega),if_pos (by simp)];simp[show o<cur.size by omega]
  ·by_cases h1:o+1<=j/\j<o+1+r.length
   ·rw[if_pos h1,if_pos (by simp;omega)]
    rw[show j-o=(j-(o+1))+1 by omega,List.getElem?_cons_succ]
   ·rw[if_neg h1,if_neg (by simp;omega),zi3 hj]
theorem qga{b:Nat}{e:TypeId}(vs:List Value):∀(o:Nat) (w:World) (cur:Array Value),w.heap[b]?=some (.cells cur e (0,0)) ->
  (w.setCells b o vs).heap[b]?=some (.cells (qgz cur o vs) e (0,0)):=by
 induction vs with
 |nil=>exact fun o w cur h=>h
 |cons v r ih=>
  intro o w cur h;rw[World.setCells,qgz];refine ih (o+1) _ _ ?_;simp[World.setCell,Array.getElem?_modify,h]
theorem qhw{b k:Nat}(hk:k≠b)(vs:List Value):∀(o:Nat) (w:World),(w.setCells b o vs).heap[k]?=w.heap[k]?:=by
 induction vs with
 |nil=>exact fun o w=>rfl
 |cons v r ih=>
  intro o w;rw[World.setCells,ih];simp only[World.setCell,Array.getElem?_modify];rw[if_neg (fun e=>hk e.symm)]
theorem qiq{b:Nat}(vs:List Value):∀(o:Nat) (w:World),(w.setCells b o vs).os=w.os/\(w.setCells b o vs).tape=w.tape/\(w.setCells b o vs).output=w.output/\(w.setCells b o vs).heap.size=w.heap.size:=by
 induction vs with
 |nil=>exact fun o w=>⟨rfl,rfl,rfl,rfl⟩
 |cons v r ih=>
  intro o w;obtain⟨h1,h2,h3,h4⟩:=ih (o+1) (w.setCell ⟨b,o,none⟩ v);exact⟨h1,h2,h3,by rw[World.setCells,h4];simp⟩
def qcu.put(o:qcu)(r c s:Nat)(get:Nat->V):qcu:=
 { o with get:=fun i j=>bif Nat.beq i r&&(Nat.ble c j&&Nat.blt j (c+s))then get (j-c)else o.get i j }
def qcu.qz2(o:qcu)(r c:Nat)(u:V):qcu:={ o with get:=fun i j=>bif Nat.beq i r&&Nat.beq j c then u else o.get i j }
theorem qq5{t:TypeId}{agg:Bool}{s:Nat}[qb6 P t agg s]{w:World}{b o:Nat}{v:Value}{cs:List Value}{cur:Array Value}{e:TypeId}(hv:v.cells.toList=cs)(hl:cs.length=s)
  (hb:w.heap[b]?=some (.cells cur e (0,0))) (hfit:o+s<=cur.size) (h1:∀u∈cs,u.oneCell'=true) :
  (Instr.storeAt t (.pointer (some ⟨b,o,none⟩)) v).run P w=.ok () (w.setCells b o cs):=by
 have hst:=run_storeCells_cells (P:=P) b o cs 0 w (fun j hj=>by simp[World.cell?,hb];omega) (fun j hj=>by simp[World.frozen?,hb]) h1
 have hsz:v.cells.size=s:=by rw[<- hl,<- hv];simp
 have hcs:v.cells.toList=cs:=hv;simp only[zh3]at hst;simp[Instr.storeAt,Instr.sureAddr,storeVar,qhh (P:=P) (t:=t),hsz,hcs,hst]
theorem qc4.store{E:Env}{M:Id->Option Nat}{F:Nat->Prop}{H:qbe}{w:World}(r:qc4 E M F H w){id:Id}{b rr c s:Nat}{o:qcu}(ho:H.slot id=.live o)(hb:M id=some b)
  (hr:rr<o.n) (hc:c+s<=o.sz) (o':qcu) (he:o'.elem=o.elem) (hz:o'.sz=o.sz) (hv:o'.ver=o.ver) (hn:o'.n=o.n) (cs:List Value) (hl:cs.length=s) (h1:∀u∈cs,u.oneCell'=true)
  (hget:∀i,i<o.n->∀j,j<o.sz->(¬ (i=rr/\c<=j/\j<c+s)/\o'.get i j=o.get i j)\/(i=rr/\c<=j/\j<c+s/\∃v,cs[j-c]?=some v/\qay H M F w (o'.get i j) v)) :
  ∃ι',qc4 E ι' F (H.set id o') (w.setCells b (rr*o.sz+c) cs)/\Ext H M F w (H.set id o') ι' F (w.setCells b (rr*o.sz+c) cs):=by
 obtain⟨cur,hh,hcs,hcell⟩:=qdm r ho hb;obtain⟨k1,k2,k3,k4⟩:=qiq (b:=b) cs (rr*o.sz+c) w;have hrow:rr*o.sz+o.sz<=o.n*o.sz:=by rw[<- Nat.succ_mul];exact zie _ hr
 have hfit:rr*o.sz+c+cs.length<=cur.size:=by omega
 refine⟨upd M id b,r.step id b o' (qgz cur (rr*o.sz+c) cs) _ _ (fun i=>by simp only[qbe.set];exact qef _ _ _ _) (fun i hi=>⟨fun e=>?_,hi⟩) rfl k1 k2 k3 (by omega) (fun k hk _=>qhw hk _ _ _)
  (by rw[he];exact qga cs _ w cur hh) (.inr ⟨hb,by rw[ho];trivial⟩) (by rw[hn];exact(r.obj id o ho).1) (by rw[hn,hz,qgb];exact hcs) (fun i hi j hj=>?_) ?_⟩
 ·subst e;have:=r.next i hi;rw[ho]at this;cases this
 ·rw[hn]at hi;rw[hz]at hj ⊢;have hlin:∀(x y:Nat),x<o.n->y<o.sz->(rr*o.sz+c<=x*o.sz+y/\x*o.sz+y<rr*o.sz+c+cs.length↔x=rr/\c<=y/\y<c+s):=by
   intro x y hx hy
   constructor
   ·rintro⟨p1,p2⟩
    have:x=rr:=by
     rcases Nat.lt_trichotomy x rr with h|h|h
     ·exfalso;have:(x+1)*o.sz<=rr*o.sz:=zie _ h;rw[Nat.succ_mul]at this;omega
     ·exact h
     ·exfalso;have:(rr+1)*o.sz<=x*o.sz:=zie _ h;rw[Nat.succ_mul]at this;omega
    subst this;omega
   ·rintro⟨rfl,p2,p3⟩;omega
  rw[qn7 _ _ _ hfit];rcases hget i hi j hj with⟨p1,p2⟩|⟨p1,p2,p3,v,p4,p5⟩
  ·rw[if_neg (fun h=>p1 ((hlin i j hi hj).1 h)),p2];obtain⟨u,q1,q2,q3,q4⟩:=hcell i hi j hj;exact⟨u,q2,q3,q4⟩
  ·rw[if_pos ((hlin i j hi hj).2 ⟨p1,p2,p3⟩)];subst p1;exact⟨v,by rw[show i*o.sz+j-(i*o.sz+c)=j-c by omega];exact p4,h1 v (List.mem_of_getElem? p4),p5⟩
 ·rw[ho];exact⟨by omega,fun _=>⟨hz,he,by omega,hb,fun cur0 hc0=>by
   rw[hh]at hc0;injection hc0 with hc0;injection hc0 with hc0;subst hc0;exact qgb _ _ _⟩⟩
theorem SL.skip{g:GOp}(hg:g.g=none) (h:∀E M F a w,Rel E M F st a w->∃w' ι' F' H',(execOp a.eval g.oper).run P w=.ok .skip w' /\
   qc4 E ι' F' H' w'/\Ext st.heap M F w H' ι' F' w'/\SL P L Q ((st.on H').put g.dst .un)):SL P (g::L) Q st:=
 ⟨fun E M F a w r=>by
  obtain⟨w',ι',F',H',h1,h2,h3,h5⟩:=h E M F a w r;have hw:g.wanted a.tmps=true:=by unfold GOp.wanted;rw[hg]
  simp only[lwp,hw,if_true,Oper.wp,h1,Oper.upon];exact h5.out E ι' F' _ _ (r.put h2 h3 g.dst (u:=.un) (v:=undef) trivial)⟩
theorem SL.qio{t:TypeId}[qb6 P t false 1]{x y:Operand}{id:Id}{ver rr c:Nat}{o:qcu}{u:V}(hx:st.eval x=.ptr id ver rr c)(ho:st.heap.slot id=.live o)(hv:ver=o.ver)
  (hr:rr<o.n) (hc:c<o.sz) (hy:st.eval y=u) (hp:u.one=true)
  (hk:SL P L Q ((st.on (st.heap.set id (o.qz2 rr c u))).put d .un)):SL P (⟨d,.store t x y,ty,none⟩::L) Q st:=
 SL.skip rfl fun E M F a w r=>by
  obtain⟨b,hb,he⟩:=qgg r hx ho hv;have hy':=r.eval y;rw[hy]at hy';have h1:=V.qg3 hp hy';have hcl:(a.eval y).cells.toList=[a.eval y]:=by
   cases hv:a.eval y<;>rw[hv]at h1<;>first|rfl|(simp[Value.oneCell']at h1)
  obtain⟨cur,hh,hcs,hcell⟩:=qdm r.h ho hb;have hrow:rr*o.sz+o.sz<=o.n*o.sz:=by rw[<- Nat.succ_mul];exact zie _ hr
  have hrun:=qq5 (P:=P) (t:=t) (w:=w) (b:=b) (o:=rr*o.sz+c) (cs:=[a.eval y]) hcl rfl hh (by omega) (by simpa using h1);obtain⟨ι',g1,g2⟩:=r.h.store ho hb hr (c:=c) (s:=1) (by omega) (o.qz2 rr c u) rfl rfl rfl rfl [a.eval y] rfl (by simpa using h1) (fun i hi j hj=>by
   by_cases h:i=rr/\j=c
   ·obtain⟨rfl,rfl⟩:=h;exact .inr ⟨rfl,zg3 _,by omega,a.eval y,by simp,by simp only[qcu.qz2,zhc,Bool.and_self,cond_true];exact hy'⟩
   ·refine .inl ⟨by omega,?_⟩;have:(Nat.beq i rr&&Nat.beq j c)=false:=by
     rw[Bool.and_eq_false_iff];by_cases hi:i=rr
     ·right
      cases hb:Nat.beq j c with
      |false=>rfl
      |true=>exact absurd ⟨hi,zg2 hb⟩ h
     ·left
      cases hb:Nat.beq i rr with
      |false=>rfl
      |true=>exact absurd (zg2 hb) hi
    simp only[qcu.qz2,this,cond_false])
  exact⟨_,ι',F,_,by simp only[execOp,GOp.oper,he,Sem.run_bind,hrun,Result.andThen_ok];rfl,g1,g2,hk⟩
theorem SL.qy3{t:TypeId}{s:Nat}[qb6 P t true s]{x y:Operand}{id:Id}{ver rr c:Nat}{o:qcu}{get:Nat->V}(hx:st.eval x=.ptr id ver rr c)(ho:st.heap.slot id=.live o)(hv:ver=o.ver)
  (hr:rr<o.n) (hc:c+s<=o.sz) (hy:st.eval y=.agg s get)
  (hk:SL P L Q ((st.on (st.heap.set id (o.put rr c s get))).put d .un)):SL P (⟨d,.store t x y,ty,none⟩::L) Q st:=
 SL.skip rfl fun E M F a w r=>by
  obtain⟨b,hb,he⟩:=qgg r hx ho hv;have hy':=r.eval y;rw[hy]at hy';obtain⟨cs,e1,e2,e3⟩:=hy';have h1:∀u∈cs.toList,u.oneCell'=true:=fun u hu=>by
   obtain⟨j,hj,hju⟩:=zis hu;have hj':j<s:=by simpa[e2]using hj
   obtain⟨c,q1,q2,q3⟩:=e3 j hj';have:c=u:=by
    have q1':cs.toList[j]?=some c:=by simpa using q1
    rw[zhb hj,hju]at q1';exact(Option.some.inj q1').symm
   rw[<- this];exact q2
  obtain⟨cur,hh,hcs,hcell⟩:=qdm r.h ho hb;have hrow:rr*o.sz+o.sz<=o.n*o.sz:=by rw[<- Nat.succ_mul];exact zie _ hr
  have hrun:=qq5 (P:=P) (t:=t) (w:=w) (b:=b) (o:=rr*o.sz+c) (v:=a.eval y) (cs:=cs.toList) (by rw[e1];rfl) (by simpa using e2) hh (by omega) h1
  obtain⟨ι',g1,g2⟩:=r.h.store ho hb hr (c:=c) (s:=s) hc (o.put rr c s get) rfl rfl rfl rfl cs.toList (by simpa using e2) h1 (fun i hi j hj=>by
   by_cases h:i=rr/\c<=j/\j<c+s
   ·obtain⟨rfl,p2,p3⟩:=h;obtain⟨v,q1,q2,q3⟩:=e3 (j-c) (by omega);refine .inr ⟨rfl,p2,p3,v,by simpa using q1,?_⟩;have:(Nat.beq i i&&(Nat.ble c j&&Nat.blt j (c+s)))=true:=by
     simp[Nat.ble_eq,p2,Nat.blt_eq,p3]
    simp only[qcu.put,this,cond_true];exact q3
   ·refine .inl ⟨h,?_⟩;have:(Nat.beq i rr&&(Nat.ble c j&&Nat.blt j (c+s)))=false:=by
     cases hb:(Nat.beq i rr&&(Nat.ble c j&&Nat.blt j (c+s)))with
     |false=>rfl
     |true=>
      simp only[zgz]at hb;exact absurd ⟨zg2 hb.1,zg4 hb.2.1,zg4 hb.2.2⟩ h
    simp only[qcu.put,this,cond_false])
  exact⟨_,ι',F,_,by simp only[execOp,GOp.oper,he,Sem.run_bind,hrun,Result.andThen_ok];rfl,g1,g2,hk⟩
end Go.Abs
namespace Go.Abs
open Go
variable {P:Program} {Q:Exit->St->Prop} {st:St} {L:List GOp} {d:Option Tmp} {ty:TypeId}
def qbe.none:qbe:=⟨0,fun _=>.qae,0⟩
def noι:Id->Option Nat:=fun _=>Option.none
def qsy(H:qbe)(M:Id->Option Nat)(b:Nat):Prop:=∃id,(H.slot id).is/\M id=some b
def zf7(F:Nat->Prop)(H:qbe)(M:Id->Option Nat)(b:Nat):Prop:=F b\/qsy H M b
theorem qay.q8c{H:qbe}{M:Id->Option Nat}{F:Nat->Prop}{w:World}{u:V}{v:Value}(h:qay qbe.none noι F w u v):qay H M F w u v:=
 Ext.of (H:=qbe.none) (M:=noι) (fun _ h=>h) (fun _ _=>rfl) (fun id=>by unfold qf5 qbe.none;trivial) u v h
theorem qc4.grow{E:Env}{M:Id->Option Nat}{F F':Nat->Prop}{H:qbe}{w w':World}(r:qc4 E M F H w)(hos:w'.os=w.os)(htape:w'.tape=w.tape)(hout:w'.output=w.output)
  (hsz:w.heap.size<=w'.heap.size) (hk:∀b,b<w.heap.size->w'.heap[b]?=w.heap[b]?) (hF:∀b,F b->F' b) (hF':∀b,F' b->F b\/w.heap.size<=b) (hlt:∀b,F' b->b<w'.heap.size) :
  qc4 E M F' H w'/\Ext H M F w H M F' w':=by
 have hlive:∀i k,(H.slot i).is->M i=some k->w'.heap[k]?=w.heap[k]?:=fun i k hi hk'=>hk k (r.lt i k hi hk');have hx:Ext H M F w H M F' w':=Ext.of hF (fun b hb=>hk b (r.qno b hb)) fun i=>by
  unfold qf5;cases hs:H.slot i with
  |qae=>trivial
  |dead=>rfl
  |mp s g=>exact .inr ⟨⟨s,g,rfl⟩,rfl⟩
  |live o=>exact .inr ⟨o,rfl,zg3 _,fun _=>⟨rfl,rfl,zg3 _,rfl,fun b cur hb hc=>⟨cur,by rw[hlive i b (by rw[hs];trivial) hb];exact hc,rfl⟩⟩⟩
 refine⟨⟨hos.trans r.os,htape.trans r.tape,hout.trans r.output,zhy r.size hsz,fun k hk' hW=>by rw[hk k (zid hk' r.size)];exact r.kept k hk' hW,fun i o hi=>?_,fun i s g hi=>?_,r.inj,fun i k hi hk' hf=>?_,r.own,
  fun i k hi hk'=>zid (r.lt i k hi hk') hsz,hlt,fun k hf=>?_,r.next,r.ext.trans hx,r.lo⟩,hx⟩
 ·obtain⟨h1,h2⟩:=r.obj i o hi;refine⟨h1,?_⟩;cases hk':M i with
  |none=>rw[hk']at h2;exact h2
  |some k=>
   rw[hk']at h2;obtain⟨cur,g1,g2,g3⟩:=h2;exact⟨cur,by rw[hlive i k (by rw[hi];trivial) hk'];exact g1,g2,fun i hi j hj=>by obtain⟨c,a,b,d⟩:=g3 i hi j hj;exact⟨c,a,b,hx _ _ d⟩⟩
 ·obtain⟨k,es,clock,g1,g2,g3,g4⟩:=r.qxx i s g hi;refine⟨k,es,clock,g1,by rw[hlive i k (by rw[hi];trivial) g1];exact g2,g3,fun key hkey=>?_⟩
  have:=g4 key hkey;cases hg:g key with
  |none=>rw[hg]at this;exact this
  |some u=>rw[hg]at this;obtain⟨n,e,a,b,c⟩:=this;exact⟨n,e,a,b,hx _ _ c⟩
 ·rcases hF' k hf with h|h
  ·exact r.qto i k hi hk' h
  ·have:=r.lt i k hi hk';omega
 ·rcases hF' k hf with h|h
  ·exact r.qxc k h
  ·right;right;exact zhy r.size h
structure CA(P:Program)(f:FuncId)(args:List V)(H:qbe)(K:V->qbe->Prop):Prop where
 mk::(out:∀E M F w (cargs:Array Value),qc4 E M F H w->args.length=cargs.size->(∀j,j<args.length->qay H M F w (args.getD j .un) (cargs.getD j undef)) ->
  Calls P f cargs w fun e w'=>∃v ι' F' H' cv,e=.returned cv/\qc4 E ι' F' H' w'/\Ext H M F w H' ι' F' w'/\qay H' ι' F' w' v cv/\K v H')
structure PC(P:Program)(f:FuncId)(args:List V)(v:V):Prop where
 mk::(out:∀(F:Nat->Prop) w (cargs:Array Value),(∀b,F b->b<w.heap.size)->args.length=cargs.size->(∀j,j<args.length->qay qbe.none noι F w (args.getD j .un) (cargs.getD j undef)) ->
  Calls P f cargs w fun e w'=>∃cv F',e=.returned cv/\w'.os=w.os/\w'.tape=w.tape/\w'.output=w.output/\w.heap.size<=w'.heap.size/\(∀b,b<w.heap.size->w'.heap[b]?=w.heap[b]?) /\
   (∀b,F b->F' b)/\(∀b,F' b->F b\/w.heap.size<=b)/\(∀b,F' b->b<w'.heap.size)/\qay qbe.none noι F' w' v cv)
class qd0(P:Program)(f:FuncId):Prop where
 ok : ∃ fn, P.funcs[f]? = some fn /\ (fn.name == "runtime.NumGoroutine") = false /\ fn.body.isNone = false
theorem qfg{f:FuncId}[h:qd0 P f](args:Array Value)(w:World):(callFunc f args).run P w=.ok (.enter f args) w:=by
 obtain⟨fn,h1,h2,h3⟩:=h.ok;have h2' : ¬ fn.name = "runtime.NumGoroutine" := by simpa using h2
 have h3':¬ fn.body=none:=fun e=>by rw[e]at h3;cases h3
 simp[callFunc,h1,h2',h3']
theorem SL.enter{g:GOp}(hg:g.g=none){f:FuncId}{args:List V}
  (h:∀E M F a w,Rel E M F st a w->∃cargs,(execOp a.eval g.oper).run P w=.ok (.enter f cargs) w/\args.length=cargs.size/\∀j,j<args.length->qay st.heap M F w (args.getD j .un) (cargs.getD j undef))
  (hk:CA P f args st.heap (fun v H'=>SL P L Q ((st.on H').put g.dst v))):SL P (g::L) Q st:=
 ⟨fun E M F a w r=>by
  obtain⟨cargs,h1,h2,h3⟩:=h E M F a w r;have hw:g.wanted a.tmps=true:=by unfold GOp.wanted;rw[hg]
  simp only[lwp,hw,if_true,Oper.wp,h1,Oper.upon];refine(hk.out E M F w cargs r.h h2 h3).mono fun e w' ⟨v,ι',F',H',cv,k1,k2,k3,k4,k5⟩=>?_;subst k1;exact k5.out E ι' F' _ _ (r.put k2 k3 g.dst k4)⟩
theorem SL.call{f:FuncId}[qd0 P f]{args:Array Operand}{ats:Array TypeId}(hk:CA P f (args.toList.map st.eval) st.heap (fun v H'=>SL P L Q ((st.on H').put d v))) :
  SL P (⟨d,.call { callee:=.value (.func f),args:=args,argTypes:=ats },ty,none⟩::L) Q st:=
 SL.enter rfl (fun E M F a w r=>⟨args.map a.eval,by simp[execOp,GOp.oper,resolve,Deferred.ofValue,invoke,Act.eval,qfg],by simp,fun j hj=>by
  have hj':j<args.size:=by simpa using hj
  have e1:(args.toList.map st.eval).getD j .un=st.eval args[j]:=by simp[hj']
  have e2:(args.map a.eval).getD j undef=a.eval args[j]:=by simp[Array.getD,hj']
  rw[e1,e2];exact r.eval _⟩) hk
def Frz(u u':V):Prop:=∀H M F w c,qay H M F w u c->qay qbe.none noι F w u' c
def qjg(H:qbe)(u u':V):Prop:=∀E M F w c,qc4 E M F H w->qay H M F w u c->qay qbe.none noι (zf7 F H M) w u' c
theorem Frz.t(x:T):Frz (.t x) (.t x):=fun H M F w c h=>h
theorem Frz.fp(m:Nat)(get:Nat->T):Frz (.fp m get) (.fp m get):=fun H M F w c h=>h
theorem qay.zev{u:V}{F F':Nat->Prop}{w:World}{c:Value}(hF:∀b,F b->F' b)(h:qay qbe.none noι F w u c):qay qbe.none noι F' w u c:=
 Ext.of (H:=qbe.none) (M:=noι) hF (fun _ _=>rfl) (fun id=>by unfold qf5 qbe.none;trivial) u c h
theorem qjg.of{H:qbe}{u u':V}(h:Frz u u'):qjg H u u':=fun E M F w c r hc=>qay.zev (fun b hb=>.inl hb) (h H M F w c hc)
theorem qjg.agg{H:qbe}{n:Nat}{g g':Nat->V}(h:∀j,j<n->qjg H (g j) (g' j)):qjg H (.agg n g) (.agg n g'):=fun E M F w c r ⟨cs,h1,h2,h3⟩=>
 ⟨cs,h1,h2,fun j hj=>by obtain⟨c,a,b,d⟩:=h3 j hj;exact⟨c,a,b,h j hj E M F w c r d⟩⟩
def qku(v:V):Prop:=∀F w c,qay qbe.none noι F w v c->∀H M F' w',qay H M F' w' v c
theorem qku.bool(b:Bool):qku (.t (.bool b)):=fun F w c h H M F' w'=>h
theorem qku.int(k:IntKind)(n:Int):qku (.t (.int k n)):=fun F w c h H M F' w'=>h
theorem qku.str(s:ByteArray):qku (.t (.str s)):=fun F w c h H M F' w'=>h
theorem qku.q4h:qku (.t .q4h):=fun F w c h H M F' w'=>h
theorem qku.tup{n:Nat}{g:Nat->V}(h:∀j,j<n->qku (g j)):qku (.tup n g):=fun F w c ⟨cs,h1,h2,h3⟩ H M F' w'=>
 ⟨cs,h1,h2,fun j hj=>by obtain⟨c,a,d⟩:=h3 j hj;exact⟨c,a,h j hj F w c d H M F' w'⟩⟩
inductive q7a(R:V->V->Prop):List V->List V->Prop where
 |nil:q7a R [] []
 |cons {a b:V} {l m:List V} (h:R a b) (t:q7a R l m):q7a R (a::l) (b::m)
theorem q7a.at_{R:V->V->Prop}{l m:List V}(h:q7a R l m):l.length=m.length/\∀j,j<l.length->R (l.getD j .un) (m.getD j .un):=by
 induction h with
 |nil=>exact⟨rfl,fun j hj=>absurd hj (zhf _)⟩
 |cons h t ih=>
  refine⟨by simp[ih.1],fun j hj=>?_⟩;cases j with
  |zero=>simpa using h
  |succ j=>simpa using ih.2 j (by simpa using hj)
def qzd(tmps:Array Value):ResultVar->Sem Value
 |.tmp t=>Pure.pure (tmps.getD t undef)
 |.cell ad t=>do loadVar t (<- asAddr (tmps.getD ad undef))
theorem qw0(fn:Func)(tmps:Array Value):results fn tmps=(do let vs <- fn.results.mapM (qzd tmps);Pure.pure (if h:vs.size=1 then vs[0]else .tuple vs)):=by
 unfold results;congr 1
def RV(P:Program)(st:St)(rv:ResultVar)(u:V):Prop:=∀E M F a w,Rel E M F st a w->∃c,(qzd a.tmps rv).run P w=.ok c w/\qay st.heap M F w u c
theorem RV.tmp(t:Tmp):RV P st (.tmp t) (st.env t):=fun E M F a w r=>⟨_,rfl,r.env t⟩
theorem qc4.start{F:Nat->Prop}{w:World}(hF:∀b,F b->b<w.heap.size):qc4 ⟨w,fun _=>False,qbe.none,noι,F⟩ noι F qbe.none w where
 os:=rfl
 tape:=rfl
 output:=rfl
 size:=zg3 _
 kept:=fun _ _ _=>rfl
 obj:=fun id o h=>by cases h
 qxx:=fun id s g h=>by cases h
 inj:=fun id id' b h _ _ _=>False.elim h
 qto:=fun id b h _=>False.elim h
 own:=fun id b h _=>False.elim h
 lt:=fun id b h _=>False.elim h
 qno:=hF
 qxc:=fun b h=>.inl h
 next:=fun id h=>rfl
 ext:=Ext.refl _ _ _ _
 lo:=fun id h=>rfl
end Go.Abs
namespace Go.Abs
open Go
variable {P:Program} {Q:Exit->St->Prop} {st:St} {L:List GOp} {d:Option Tmp} {ty:TypeId}
structure q97(w:World)(F:Nat->Prop)(w':World)(F':Nat->Prop):Prop where
 os:w'.os=w.os
 tape:w'.tape=w.tape
 output:w'.output=w.output
 size:w.heap.size<=w'.heap.size
 kept:∀b,b<w.heap.size->w'.heap[b]?=w.heap[b]?
 up:∀b,F b->F' b
 inn:∀b,F' b->F b\/w.heap.size<=b
 lt:∀b,F' b->b<w'.heap.size
structure Grown(w w':World):Prop where
 size:w.heap.size<=w'.heap.size
 kept:∀b,b<w.heap.size->w'.heap[b]?=w.heap[b]?
theorem Grown.refl(w:World):Grown w w:=⟨zg3 _,fun _ _=>rfl⟩
theorem Grown.trans{a b c:World}(h:Grown a b)(k:Grown b c):Grown a c:=
 ⟨zhy h.size k.size,fun x hx=>(k.kept x (zid hx h.size)).trans (h.kept x hx)⟩
theorem q97.grown{w w':World}{F F':Nat->Prop}(g:q97 w F w' F'):Grown w w':=⟨g.size,g.kept⟩
theorem qc4.grown{E:Env}{M:Id->Option Nat}{F F':Nat->Prop}{H:qbe}{w w':World}(r:qc4 E M F H w)(g:q97 w F w' F'):qc4 E M F' H w'/\Ext H M F w H M F' w':=
 r.grow g.os g.tape g.output g.size g.kept g.up g.inn g.lt
def QO(P:Program)(g:GOp)(u:V)(st:St):Prop:=∀E M F a w,Rel E M F st a w ->
 g.oper.wp P a w (fun a' w'=>∃c F',a'=a.put g.dst c/\q97 w F w' F'/\qay st.heap M F' w' u c) (fun _ _ _=>False)
theorem QO.of{g:GOp}{u:V}(h:QV P g u st):QO P g u st:=fun E M F a w r=>by
 obtain⟨v,h1,h2⟩:=h E M F a w r;simp only[Oper.wp,h1,Oper.upon];exact⟨v,F,rfl,⟨rfl,rfl,rfl,zg3 _,fun _ _=>rfl,fun _ h=>h,fun _ h=>.inl h,r.h.qno⟩,h2⟩
theorem qpc{o:Oper}{a:Act}{w:World}{K:Act->World->Prop}{Q:Exit->Act->World->Prop}(h:o.wp P a w K (fun _ _ _=>False)):o.wp P a w K Q:=by
 unfold Oper.wp at h ⊢;generalize (execOp a.eval o).run P w=res at h ⊢;cases res with
 |ok n w'=>
  cases n<;>simp only[Oper.upon]at h⊢<;> first|exact h|exact Calls.mono h (fun e w'' he=>by cases e<;>first|exact he|exact he.elim|(obtain⟨a,w,he⟩:=he;exact he.elim))
 |halt x w'=>cases x<;>simp only[Oper.upon]at h ⊢
theorem qsn{f:FuncId}[qd0 P f]{args:Array Operand}{ats:Array TypeId}(a:Act)(w:World) :
  (execOp a.eval (GOp.oper ⟨d,.call { callee:=.value (.func f),args:=args,argTypes:=ats },ty,none⟩)).run P w=.ok (.enter f (args.map a.eval)) w:=by
 simp[execOp,GOp.oper,resolve,Deferred.ofValue,invoke,Act.eval,qfg]
theorem qwm{E:Env}{M:Id->Option Nat}{F:Nat->Prop}{a:Act}{w:World}(r:Rel E M F st a w)(args:Array Operand)(j:Nat)(hj:j<(args.toList.map st.eval).length) :
  qay st.heap M F w ((args.toList.map st.eval).getD j .un) ((args.map a.eval).getD j undef):=by
 have hj':j<args.size:=by simpa using hj
 have e1:(args.toList.map st.eval).getD j .un=st.eval args[j]:=by simp[hj']
 have e2:(args.map a.eval).getD j undef=a.eval args[j]:=by simp[Array.getD,hj']
 rw[e1,e2];exact r.eval _
theorem QO.call{f:FuncId}[qd0 P f]{args:Array Operand}{ats:Array TypeId}{fargs:List V}{v:V}(h:PC P f fargs v)(ha:q7a Frz (args.toList.map st.eval) fargs) :
  QO P ⟨d,.call { callee:=.value (.func f),args:=args,argTypes:=ats },ty,none⟩ v st:=fun E M F a w r=>by
 simp only[Oper.wp,qsn,Oper.upon];obtain⟨hll,hat⟩:=ha.at_;refine(h.out F w (args.map a.eval) r.h.qno (by rw[<- hll];simp) (fun j hj=>hat j (by omega) _ _ _ _ _ (qwm r args j (by omega)))).mono fun e w' ⟨cv,F',h1,h2,h3,h4,h5,h6,h7,h8,h9,h10⟩=>?_
 subst h1;exact⟨cv,F',rfl,⟨h2,h3,h4,h5,h6,h7,h8,h9⟩,h10.q8c⟩
theorem QO.qak{f:FuncId}[qd0 P f]{args:Array Operand}{ats:Array TypeId}{fargs:List V}{v:V}(h:PC P f fargs v)(ha:q7a (qjg st.heap) (args.toList.map st.eval) fargs)(hs:qku v) :
  QO P ⟨d,.call { callee:=.value (.func f),args:=args,argTypes:=ats },ty,none⟩ v st:=fun E M F a w r=>by
 simp only[Oper.wp,qsn,Oper.upon];obtain⟨hll,hat⟩:=ha.at_;refine(h.out (zf7 F st.heap M) w (args.map a.eval) (fun b hb=>?_) (by rw[<- hll];simp) (fun j hj=>hat j (by omega) _ _ _ _ _ r.h (qwm r args j (by omega)))).mono fun e w' ⟨cv,F',h1,h2,h3,h4,h5,h6,h7,h8,h9,h10⟩=>?_
 ·rcases hb with hb|⟨id,h1,h2⟩
  ·exact r.h.qno b hb
  ·exact r.h.lt id b h1 h2
 ·subst h1;exact⟨cv,F,rfl,⟨h2,h3,h4,h5,h6,fun _ h=>h,fun _ h=>.inl h,fun b hb=>zid (r.h.qno b hb) h5⟩,hs _ _ _ h10 _ _ _ _⟩
theorem SL.q{op:Op}{u:V}(h:QO P ⟨d,op,ty,none⟩ u st)(k:SL P L Q (st.put d u)):SL P (⟨d,op,ty,none⟩::L) Q st:=
 ⟨fun E M F a w r=>by
  have hw:GOp.wanted ⟨d,op,ty,none⟩ a.tmps=true:=rfl;simp only[lwp,hw,if_true];have h1:=h E M F a w r;refine Oper.wp_mono (K:=fun a' w'=>∃c F',a'=a.put d c/\q97 w F w' F'/\qay st.heap M F' w' u c) (fun a' w' ⟨c,F',e,g,v⟩=>?_) (qpc h1);subst e;obtain⟨r2,x2⟩:=r.h.grown g;exact k.out E M F' _ _ (r.put r2 x2 d v)⟩
theorem SL.o{op:Op}{u:V}(h:QV P ⟨d,op,ty,none⟩ u st)(k:SL P L Q (st.put d u)):SL P (⟨d,op,ty,none⟩::L) Q st:=SL.q (QO.of h) k
def q2o:List Tmp->Tmp->Bool
 |[],_=>false
 |x::l,t=>Nat.beq t x||q2o l t
def St.only(st:St)(xs:List Tmp):St:={ st with env:=fun t=>bif q2o xs t then st.env t else .un }
def qzt:Operand->List Tmp
 |.tmp t=>[t]
 |_=>[]
def rds(op:Op):List Tmp:=op.operands.toList.flatMap qzt
theorem qvg(l:List Tmp)(t:Tmp):q2o l t=true↔t∈l:=by
 induction l with
 |nil=>simp[q2o]
 |cons x l ih=>
  simp only[q2o,zh0,ih,zhr]
  constructor
  ·rintro(h|h)
   ·exact .inl (zg2 h)
   ·exact .inr h
  ·rintro(h|h)
   ·subst h;simp
   ·exact .inr h
def QG(P:Program)(g:GOp)(u:V)(st:St):Prop:=
 match g.g with
 |none=>QO P ⟨g.dst,g.op,g.type,none⟩ u (st.only (rds g.op))
 |some (some t,want)=>(Nat.blt t st.nt=true/\∃b,st.env t=.t (.bool b)/\(b=want->QO P ⟨g.dst,g.op,g.type,none⟩ u (st.only (rds g.op)))/\(b=!want->u=.und))\/(st.env t=.und/\u=.und)
 |some (none,_)=>False
inductive QS(P:Program)(K:St->Prop):List GOp->St->Prop where
 |nil {st:St} (h:K st):QS P K [] st
 |cons {g:GOp} {L:List GOp} {st:St} (u:V) (h:QG P g u st) (k:QS P K L (st.put g.dst u)):QS P K (g::L) st
variable {K:St->Prop}
theorem QS.q{op:Op}{u:V}(h:QO P ⟨d,op,ty,none⟩ u (st.only (rds op)))(k:QS P K L (st.put d u)):QS P K (⟨d,op,ty,none⟩::L) st:=.cons u h k
theorem QS.o{op:Op}{u:V}(h:QV P ⟨d,op,ty,none⟩ u (st.only (rds op)))(k:QS P K L (st.put d u)):QS P K (⟨d,op,ty,none⟩::L) st:=.cons u (QO.of h) k
theorem QS.gq{op:Op}{u:V}{t:Tmp}{want:Bool}(hb:st.env t=.t (.bool want))(hlt:Nat.blt t st.nt=true)(h:QO P ⟨d,op,ty,none⟩ u (st.only (rds op)))(k:QS P K L (st.put d u)) :
  QS P K (⟨d,op,ty,some (some t,want)⟩::L) st:=.cons u (.inl ⟨hlt,want,hb,fun _=>h,fun e=>by cases want<;>cases e⟩) k
theorem QS.gn{op:Op}{t:Tmp}{want:Bool}(hb:st.env t=.t (.bool (!want)))(hlt:Nat.blt t st.nt=true)(k:QS P K L (st.put d .und)) :
  QS P K (⟨d,op,ty,some (some t,want)⟩::L) st:=.cons .und (by
  refine .inl ⟨hlt,!want,hb,fun e=>?_,fun _=>rfl⟩;cases want<;>cases e) k
theorem QS.gu{op:Op}{t:Tmp}{want:Bool}(hb:st.env t=.und)(k:QS P K L (st.put d .und)) :
  QS P K (⟨d,op,ty,some (some t,want)⟩::L) st:=.cons .und (.inr ⟨hb,rfl⟩) k
def qee(P:Program)(A:Array Oper)(J:Nat->Bool)(Q:Exit->Act->World->Prop):Nat->Array Bool->Act->World->Prop
 |0,listed,a,w=>Region.ready .any A listed=[]/\Q .normal a w
 |fuel+1,listed,a,w=>
  (Region.ready .any A listed=[]->Q .normal a w) /\
  ∀i∈Region.ready .any A listed,wpOp P A Q i (fun a' w'=>(J i=true->Grown w w')/\qee P A J Q fuel (listed.setIfInBounds i true) a' w') a w
theorem qee.any{A:Array Oper}{J:Nat->Bool}{Q:Exit->Act->World->Prop}:∀(fuel:Nat) (listed:Array Bool) (a:Act) (w:World),qee P A J Q fuel listed a w->wpAny P .any A Q fuel listed a w
 |0,_,_,_,h=>h
 |fuel+1,listed,a,w,⟨h1,h2⟩=>⟨h1,fun i hi=>wpOp_mono (fun a' w' h=>qee.any fuel _ a' w' h.2) (h2 i hi)⟩
theorem qs1{A:Array Oper}{J:Nat->Bool}{Q:Exit->Act->World->Prop}{listed:Array Bool}{a:Act}{w:World}(hr:Region.ready .any A listed=[])(h:Q .normal a w):∀fuel,qee P A J Q fuel listed a w
 |0=>⟨hr,h⟩
 |_+1=>⟨fun _=>h,fun i hi=>by rw[hr]at hi;cases hi⟩
structure qe8(P:Program)(A:Array Oper)(J:Nat->Bool)(D:List Nat)(Q:Exit->St->Prop)(st:St):Prop where
 mk::(out:∀E M F a w fuel (listed:Array Bool),Rel E M F st a w->listed.size=A.size->(∀k,k<A.size->listed.getD k true=D.contains k)->D.Nodup->(∀k∈D,k<A.size) ->
  A.size<=fuel+D.length->qee P A J (qjj E Q) fuel listed a w)
theorem SC.draw{id:Nat}{A:Array Oper}(hm:P.follows .mixedOrders=true){J:Nat->Bool}(h:qe8 P A J [] Q st):SC P (.region id A true) Q st:=
 ⟨fun E M F a w r=>wp_region_any hm (by
  obtain⟨r1,x1⟩:=r.h.same (w':={ w with drawn:=w.drawn+1 }) rfl rfl rfl rfl;exact qee.any _ _ _ _<|h.out E M F a _ A.size _ ⟨r1,fun t=>x1 _ _ (r.env t),r.nt,r.defers⟩ (by simp) (fun k hk=>by simp[hk]) List.nodup_nil (fun k hk=>by cases hk) (by simp))⟩
def q2j(n:Nat)(D:List Nat):Bool:=(List.range n).all fun k=>D.contains k
theorem qe8.done{A:Array Oper}{J:Nat->Bool}{D:List Nat}(hc:q2j A.size D=true)(h:Q .normal st):qe8 P A J D Q st:=
 ⟨fun E M F a w fuel listed r hs hl _ _ _=>qs1 (by
  cases hr:Region.ready .any A listed with
  |nil=>rfl
  |cons x xs=>
   have hx:x∈Region.ready .any A listed:=by rw[hr];exact zg5
   obtain⟨h0,o,ho,_⟩:=mem_ready.1 hx;have hlt:=(zic.1 ho).1;have:=hl x hlt;rw[h0]at this;simp only[q2j,zhm,zif]at hc;rw[hc x hlt]at this;cases this) ⟨M,F,st,r,h⟩ fuel⟩
def qd4(A:Array Oper)(k:Nat):List Nat:=match A[k]? with
 |none=>[]
 |some o=>(o.after.toList.filter (Region.binds .any)).map (·.on)
def anc(A:Array Oper)(k:Nat):Nat:=(Region.before A).getD k 0
def qsx(A:Array Oper)(T:Nat->Prop):Prop:=∀i,T i->∀e∈qd4 A i,T e
def qni(acc:Array Nat)(o:Oper):Array Nat:=
 acc.push (o.after.foldl (fun s e=>if Region.binds .any e then s ||| 2^e.on ||| acc.getD e.on 0 else s) 0)
theorem q2b(l:List Edge)(acc:Array Nat)(T:Nat->Prop)(hacc:∀j x,(acc.getD j 0).testBit x=true->T j->T x)(hT:∀e∈l,Region.binds .any e=true->T e.on) :
  ∀s:Nat,(∀x,s.testBit x=true->T x)->∀x,(l.foldl (fun s e=>if Region.binds .any e then s ||| 2^e.on ||| acc.getD e.on 0 else s) s).testBit x=true->T x:=by
 induction l with
 |nil=>exact fun s hs x hx=>hs x hx
 |cons e l ih=>
  intro s hs x hx;simp only[zh8]at hx;refine ih (fun e he=>hT e (zg8 _ he)) _ ?_ x hx;intro y hy;split at hy
  ·rename_i hb;rw[Nat.testBit_or,Nat.testBit_or,zh0,zh0]at hy;have he:=hT e zg5 hb;rcases hy with(hy|hy)|hy
   ·exact hs y hy
   ·rw[Nat.testBit_two_pow]at hy;have:e.on=y:=by simpa using hy
    exact this▸he
   ·exact hacc _ _ hy he
  ·exact hs y hy
theorem qwh(A:Array Oper)(T:Nat->Prop)(hT:qsx A T):∀(l:List Oper) (acc:Array Nat),A.toList.drop acc.size=l->(∀j x,(acc.getD j 0).testBit x=true->(∀e∈qd4 A j,T e)->T x) ->
  ∀j x,(((l.foldl qni acc)).getD j 0).testBit x=true->(∀e∈qd4 A j,T e)->T x
 |[],acc,hd,hacc,j,x,h,he=>hacc j x h he
 |o::l,acc,hd,hacc,j,x,h,he=>by
  have ho:A[acc.size]?=some o:=by
   have:=congrArg (·[0]?) hd;simpa using this
  refine qwh A T hT l (qni acc o) ?_ ?_ j x h he
  ·have:=congrArg (·.drop 1) hd;simpa[qni,List.drop_drop,zil]using this
  ·intro j x hx he;simp only[qni,zhl,Array.getElem?_push]at hx;split at hx
   ·rename_i hj;simp only[zhi]at hx;rw[<- Array.foldl_toList]at hx;refine q2b o.after.toList acc T (fun j' y hy hj'=>hacc j' y hy (hT j' hj')) (fun e hel hb=>?_) 0 (fun x hx=>by simp at hx) x (by simpa only[zhl]using hx);refine he e.on ?_;subst hj;simp only[qd4,ho];exact zhk.2 ⟨e,zig.2 ⟨hel,hb⟩,rfl⟩
   ·exact hacc j x (by rw[zhl];exact hx) he
theorem q5o{A:Array Oper}{T:Nat->Prop}(hT:qsx A T){j x:Nat}(h:(anc A j).testBit x=true)(he:∀e∈qd4 A j,T e):T x:=by
 have e:Region.before A=A.toList.foldl qni #[]:=by
  unfold Region.before;rw[<- Array.foldl_toList];rfl
 unfold anc at h;rw[e]at h;refine qwh A T hT A.toList #[] rfl (fun j x h=>?_) j x h he;simp at h
def qkq:List Nat->Nat->Nat
 |[],_=>0
 |a::_,0=>a
 |_::l,n+1=>qkq l n
def quk(A:Array Oper)(ab:List Nat):Prop:=∀T:Nat->Prop,qsx A T->∀j x,(qkq ab j).testBit x=true->(∀e∈qd4 A j,T e)->T x
def q5i(A:Array Oper):List Nat:=(Region.before A).toList
theorem qtn:∀(l:List Nat) (j:Nat),qkq l j=l.getD j 0
 |[],j=>by simp[qkq]
 |a::l,0=>by simp[qkq]
 |a::l,j+1=>by simp[qkq,qtn l j]
theorem quk.bef(A:Array Oper):quk A (q5i A):=fun T hT j x h he=>q5o hT (by
 have e:qkq (q5i A) j=anc A j:=by
  rw[qtn];simp[q5i,anc,zhl,zg0]
 rw[<- e];exact h) he
def qxd(ab:List Nat)(k:Nat):List Edge->Nat->Bool
 |[],m=>Nat.beq m 0
 |e::l,m=>bif Region.binds .any e then Nat.blt e.on k&&qxd ab k l (Nat.land m (Nat.xor m (Nat.land m (Nat.lor (2^e.on) (qkq ab e.on)))))else qxd ab k l m
def qwp(ab:List Nat):List Oper->Nat->Bool
 |[],k=>Nat.beq k ab.length
 |o::l,k=>qxd ab k o.after.toList (qkq ab k)&&qwp ab l (k+1)
def zc5(A:Array Oper)(ab:List Nat):Bool:=qwp ab A.toList 0
theorem qmx{ab:List Nat}{k:Nat}:∀(l:List Edge) (m:Nat),qxd ab k l m=true->∀x,m.testBit x=true->∃e∈l,Region.binds .any e=true/\e.on<k/\(x=e.on\/(qkq ab e.on).testBit x=true)
 |[],m,h,x,hx=>by
  have:m=0:=zg2 h;subst this;simp at hx
 |e::l,m,h,x,hx=>by
  unfold qxd at h;cases hb:Region.binds .any e with
  |false=>
   rw[hb]at h;obtain⟨e',h1,h2⟩:=qmx l m h x hx;exact⟨e',zg8 _ h1,h2⟩
  |true=>
   rw[hb]at h;simp only[cond_true,zgz]at h;obtain⟨hlt,h⟩:=h;have hlt:e.on<k:=zg4 hlt;by_cases hy:x=e.on\/(qkq ab e.on).testBit x=true
   ·exact⟨e,zg5,hb,hlt,hy⟩
   ·have hne:¬ e.on=x:=fun h=>hy (.inl h.symm);have h2:(qkq ab e.on).testBit x=false:=by
     cases hc:(qkq ab e.on).testBit x with
     |false=>rfl
     |true=>exact absurd (.inr hc) hy
    obtain⟨e',h1,h3⟩:=qmx l _ h x (by
     show(m &&& (m ^^^ (m &&& (2^e.on ||| qkq ab e.on)))).testBit x=true;simp[Nat.testBit_and,Nat.testBit_xor,Nat.testBit_or,Nat.testBit_two_pow,hx,hne,h2])
    exact⟨e',zg8 _ h1,h3⟩
theorem qpa{ab:List Nat}:∀(l:List Oper) (k:Nat),qwp ab l k=true->(∀i o,l[i]?=some o->qxd ab (k+i) o.after.toList (qkq ab (k+i))=true)/\ab.length=k+l.length
 |[],k,h=>⟨fun i o h=>(by simp at h),by rw[zg2 h];simp⟩
 |o::l,k,h=>by
  simp only[qwp,zgz]at h;obtain⟨h1,h2⟩:=qpa l (k+1) h.2;refine⟨fun i o' hi=>?_,by rw[h2,zg1];omega⟩
  cases i with
  |zero=>simp only[List.getElem?_cons_zero,Option.some.injEq]at hi;subst hi;exact h.1
  |succ i=>
   have:=h1 i o' (by simpa using hi);have e:k+1+i=k+(i+1):=by omega
   rw[e]at this;exact this
theorem quk.of{A:Array Oper}{ab:List Nat}(h:zc5 A ab=true):quk A ab:=by
 obtain⟨h1,h2⟩:=qpa _ _ h;intro T hT j
 induction j using Nat.strongRecOn with
 |ind j ih=>
  intro x hx he;rcases Nat.lt_or_ge j A.size with hj|hj
  ·obtain⟨e,hm,hb,hlt,hor⟩:=qmx _ _ (by have:=h1 j A[j] (by simp[hj]);rw[zg9]at this;exact this) x hx
   have hin:e.on∈qd4 A j:=by
    simp only[qd4,zhp hj];exact zhk.2 ⟨e,zig.2 ⟨hm,hb⟩,rfl⟩
   rcases hor with rfl|hor
   ·exact he _ hin
   ·exact ih e.on hlt x hor (hT _ (he _ hin))
  ·rw[qtn,zg0,ziw (by rw[h2];simpa using hj)]at hx
   simp at hx
def qsh(A:Array Oper)(k:Nat):Option Tmp:=(A[k]?).bind (·.dst)
def looks(A:Array Oper)(k:Nat):List Tmp:=match A[k]? with
 |none=>[]
 |some o=>rds o.op++match o.guard with
  |none=>[]
  |some (j,_)=>match(A[j]?).bind (·.dst)with|some t=>[t]|none=>[]
def qxj(A:Array Oper)(j i:Nat):Bool:=match qsh A j with
 |none=>false
 |some t=>q2o (looks A i) t
def qs6(A:Array Oper)(i j:Nat):Bool:=match qsh A i,qsh A j with
 |some s,some t=>Nat.beq s t
 |_,_=>false
def qo3(A:Array Oper)(ab:List Nat):List Nat->List Nat->Bool
 |_,[]=>true
 |early,i::late=>
  (early.all fun j=>(!qxj A j i||(qkq ab i).testBit j)&&!qs6 A i j&&!(Nat.beq i j)) &&
  (late.all fun j=>(!qxj A j i||(qkq ab j).testBit i))&&qo3 A ab (early++[i]) late
def qwa(A:Array Oper)(D:List Nat):List Nat->List Nat->Bool
 |_,[]=>true
 |early,i::late=>((qd4 A i).all fun e=>D.contains e||early.contains e)&&qwa A D (early++[i]) late
def chk(A:Array Oper)(ab:List Nat)(D X:List Nat):Bool:=
 (X.all fun i=>Nat.blt i A.size&&!D.contains i) &&
 (D.all fun k=>(qd4 A k).all fun e=>D.contains e) &&
 ((List.range A.size).all fun k=>D.contains k||X.contains k||X.all fun x=>(qkq ab k).testBit x) &&
 qo3 A ab [] X&&qwa A D [] X
def qda(A:Array Oper)(i:Nat):GOp:=Oper.gop A.toList (A.getD i default)
def qk2(A:Array Oper)(us:Nat->V):List Nat->St->St
 |[],st=>st
 |i::X,st=>qk2 A us X (st.put (qda A i).dst (us i))
theorem qcr(st:St)(d:Option Tmp)(u:V):(st.put d u).heap=st.heap:=by cases d<;>rfl
theorem qg2(st:St)(d:Option Tmp)(u:V):(st.put d u).nt=st.nt:=by cases d<;>rfl
theorem qfw(A:Array Oper)(us:Nat->V)(X:List Nat):∀st:St,(qk2 A us X st).heap=st.heap:=by
 induction X with
 |nil=>exact fun st=>rfl
 |cons i X ih=>intro st;rw[qk2,ih,qcr]
theorem qh6(A:Array Oper)(us:Nat->V)(X:List Nat):∀st:St,(qk2 A us X st).nt=st.nt:=by
 induction X with
 |nil=>exact fun st=>rfl
 |cons i X ih=>intro st;rw[qk2,ih,qg2]
theorem qob(st:St)(d:Option Tmp)(u:V)(t:Tmp)(h:d≠some t):(st.put d u).env t=st.env t:=by
 cases d with
 |none=>rfl
 |some d=>
  have:Nat.beq t d=false:=by
   cases hb:Nat.beq t d with
   |false=>rfl
   |true=>exact absurd (by rw[zg2 hb]) h
  simp[St.put,this]
theorem qcz(st:St)(u:V)(t:Tmp):(st.put (some t) u).env t=bif Nat.blt t st.nt then u else .un:=by simp[St.put]
theorem qge(A:Array Oper)(us:Nat->V)(t:Tmp)(X:List Nat):∀st:St,(∀i∈X,(qda A i).dst≠some t)->(qk2 A us X st).env t=st.env t:=by
 induction X with
 |nil=>exact fun st _=>rfl
 |cons i X ih=>
  intro st h;rw[qk2,ih _ (fun j hj=>h j (zg8 _ hj)),qob _ _ _ _ (h i zg5)]
def q2k(A:Array Oper)(X:List Nat):Prop:=∀i∈X,∀j∈X,∀t,(qda A i).dst=some t->(qda A j).dst=some t->i=j
theorem qiu(A:Array Oper)(us:Nat->V)(t:Tmp)(i:Nat)(hi:(qda A i).dst=some t)(X:List Nat):∀st:St,q2k A X->X.Nodup->i∈X->(qk2 A us X st).env t=bif Nat.blt t st.nt then us i else .un:=by
 induction X with
 |nil=>intro st _ _ h;cases h
 |cons k X ih=>
  intro st h1 hnd hm;rw[qk2];by_cases hk:i=k
  ·subst hk;have hni:i∉X:=(zhu.1 hnd).1;rw[qge _ _ _ _ _ (fun j hj e=>hni (by have:=h1 i zg5 j (zg8 _ hj) t hi e;rw[this];exact hj)),hi,qcz]
  ·have hm':i∈X:=by
    rcases zhr.1 hm with h|h
    ·exact absurd h hk
    ·exact h
   rw[ih _ (fun a ha b hb=>h1 a (zg8 _ ha) b (zg8 _ hb)) (zhu.1 hnd).2 hm',qg2]
theorem QS.split{A:Array Oper}{K:St->Prop}:∀(X:List Nat) (st:St),X.Nodup->QS P K (X.map (qda A)) st ->
  ∃us:Nat->V,(∀p i s,X=p++i::s->QG P (qda A i) (us i) (qk2 A us p st))/\K (qk2 A us X st)
 |[],st,_,h=>by
  cases h with
  |nil h=>
   refine⟨fun _=>.un,?_,h⟩;intro p i s e;cases p<;>cases e
 |i::X,st,hnd,h=>by
  cases h with
  |cons u hu k=>
   obtain⟨us,h1,h2⟩:=QS.split X _ (zhu.1 hnd).2 k;have hni:i∉X:=(zhu.1 hnd).1;have hus:∀(Y:List Nat),(∀j∈Y,j∈X)->∀st',qk2 A (fun j=>if j=i then u else us j) Y st'=qk2 A us Y st':=by
    intro Y
    induction Y with
    |nil=>exact fun _ _=>rfl
    |cons j Y ih=>
     intro hY st';have hji:j≠i:=fun e=>hni (e▸hY j zg5);simp only[qk2,if_neg hji];exact ih (fun x hx=>hY x (zg8 _ hx)) _
   refine⟨fun j=>if j=i then u else us j,fun p j s e=>?_,?_⟩
   ·cases p with
    |nil=>
     simp only[zhv,List.cons.injEq]at e;obtain⟨rfl,rfl⟩:=e;simp only[if_true,qk2];exact hu
    |cons q p=>
     simp only[zh9,List.cons.injEq]at e;obtain⟨rfl,rfl⟩:=e;have hj:j∈p++j::s:=by simp
     have hji:j≠i:=fun e=>hni (e▸hj);simp only[qk2,if_true,if_neg hji];rw[hus p (fun x hx=>by simp[hx])];exact h1 p j s rfl
   ·simp only[qk2,if_true];rw[hus X (fun _ h=>h)];exact h2
theorem Rel.congr{E:Env}{M:Id->Option Nat}{F:Nat->Prop}{st st':St}{a:Act}{w:World}(h:Rel E M F st a w)(hh:st'.heap=st.heap)(hn:st'.nt=st.nt)(he:∀t,st'.env t=st.env t\/st'.env t=.un):Rel E M F st' a w:=by
 refine⟨hh▸h.h,fun t=>?_,by rw[hn];exact h.nt,h.defers⟩
 rcases he t with e|e
 ·rw[e,hh];exact h.env t
 ·rw[e];exact trivial
theorem qg5:∀(n:Nat) (T:List Nat),T.Nodup->(∀k∈T,k<n)->T.length<=n
 |0,T,_,h=>by
  cases T with
  |nil=>exact zg3 _
  |cons x T=>exact absurd (h x zg5) (zhf _)
 |n+1,T,hnd,h=>by
  have h1:=qg5 n (T.erase n) (hnd.erase n) (fun k hk=>by
   have hk':=List.mem_of_mem_erase hk;have:=h k hk';have hne:k≠n:=fun e=>by
    subst e;exact absurd hk (hnd.not_mem_erase)
   omega)
  by_cases hm:n∈T
  ·rw[List.length_erase_of_mem hm]at h1;omega
  ·rw[List.erase_of_not_mem hm]at h1;omega
def qhu(A:Array Oper)(listed:Array Bool)(T:List Nat):Prop:=listed.size=A.size/\∀k,k<A.size->listed.getD k true=T.contains k
theorem qhu.zgu{A:Array Oper}{listed:Array Bool}{T:List Nat}(h:qhu A listed T){k:Nat}(hk:listed.getD k false=true):k<A.size/\k∈T:=by
 have hlt:k<listed.size:=by
  rcases Nat.lt_or_ge k listed.size with h|h
  ·exact h
  ·rw[zhl,zi1 h]at hk;cases hk
 have hlt':k<A.size:=h.1▸hlt;refine⟨hlt',?_⟩;have:=h.2 k hlt';rw[zhl,zhp hlt]at this hk;simp only[zhi]at this hk;rw[hk]at this;simpa using this.symm
theorem qhu.ready{A:Array Oper}{listed:Array Bool}{T:List Nat}(h:qhu A listed T){k:Nat}(hk:k∈Region.ready .any A listed):k<A.size/\k∉T/\∀e∈qd4 A k,e∈T:=by
 obtain⟨h0,o,ho,he⟩:=mem_ready.1 hk;have hlt:=(zic.1 ho).1;refine⟨hlt,?_,fun e hm=>?_⟩
 ·have:=h.2 k hlt;rw[h0]at this;intro hc;rw[zhh.2 hc]at this;cases this
 ·simp only[qd4,ho,zhk,zig]at hm;obtain⟨e',⟨h1,h2⟩,rfl⟩:=hm;exact(h.zgu (he e' (by simpa using h1) h2)).2
theorem qhu.qlm{A:Array Oper}{listed:Array Bool}{T:List Nat}(h:qhu A listed T){k:Nat}(hlt:k<A.size)(hT:k∉T)(he:∀e∈qd4 A k,e∈T/\e<A.size):k∈Region.ready .any A listed:=by
 refine mem_ready.2 ⟨?_,A[k],zhp hlt,fun e hm hb=>?_⟩
 ·rw[h.2 k hlt];cases hc:T.contains k with
  |false=>rfl
  |true=>exact absurd (zhh.1 hc) hT
 ·have hmem:e.on∈qd4 A k:=by
   simp only[qd4,zhp hlt];exact zhk.2 ⟨e,zig.2 ⟨by simpa using hm,hb⟩,rfl⟩
  obtain⟨h1,h2⟩:=he _ hmem;have h3:=h.2 e.on h2;rw[zhh.2 h1]at h3;have hsz:e.on<listed.size:=by rw[h.1];exact h2
  rw[zhl,zhp hsz]at h3 ⊢;exact h3
theorem qhu.set{A:Array Oper}{listed:Array Bool}{T:List Nat}(h:qhu A listed T)(i:Nat):qhu A (listed.setIfInBounds i true) (T++[i]):=by
 refine⟨by simp[h.1],fun k hk=>?_⟩;have hk':k<listed.size:=by rw[h.1];exact hk
 by_cases hik:i=k
 ·subst hik;rw[zhl,zi7 hk'];simp
 ·rw[zhl,zi3 hik,<- zhl,h.2 k hk];have:(k==i)=false:=by simp;exact fun e=>hik e.symm
  simp[List.contains_eq_any_beq,List.any_append,this];intro h;exact absurd h.symm hik
theorem qkk{A:Array Oper}{ab:List Nat}:∀(late early:List Nat),qo3 A ab early late=true->late.Nodup/\∀x∈late,x∉early
 |[],early,_=>⟨List.nodup_nil,fun x hx=>by cases hx⟩
 |k::late,early,h=>by
  simp only[qo3,zgz,zhm,zhn]at h;obtain⟨⟨h1,h2⟩,h3⟩:=h;obtain⟨g1,g2⟩:=qkk late (early++[k]) h3;refine⟨zhu.2 ⟨fun hk=>g2 k hk (by simp),g1⟩,fun x hx hxe=>?_⟩;rcases zhr.1 hx with h|h
  ·subst h;have:=(h1 x hxe).2;simp at this
  ·exact g2 x h (zho _ hxe)
theorem qiy:∀(S X:List Nat),S.Nodup->(∀x∈S,x∈X)->S.length<=X.length
 |[],X,_,_=>Nat.zero_le _
 |a::S,X,hn,h=>by
  have ha:=h a zg5;have h1:=qiy S (X.erase a) (zhu.1 hn).2 (fun x hx=>by
   have hne:x≠a:=fun e=>(zhu.1 hn).1 (e▸hx);exact(List.mem_erase_of_ne hne).2 (h x (zg8 _ hx)))
  rw[List.length_erase_of_mem ha]at h1;have:=List.length_pos_of_mem ha;simp only[zg1];omega
theorem qw5{S X:List Nat}(hn:S.Nodup)(h:∀x∈S,x∈X)(hl:X.length<=S.length):∀x∈X,x∈S:=fun x hx=>Classical.byContradiction fun hxS=>by
 have:=qiy (x::S) X (zhu.2 ⟨hxS,hn⟩) (fun y hy=>by
  rcases zhr.1 hy with e|e
  ·exact e▸hx
  ·exact h y e)
 simp only[zg1]at this;omega
theorem qnb{A:Array Oper}{ab:List Nat}:∀(late early:List Nat),qo3 A ab early late=true->∀p i s,late=p++i::s ->
  (∀j∈early++p,(qxj A j i=true->(qkq ab i).testBit j=true)/\qs6 A i j=false/\i≠j)/\(∀j∈s,qxj A j i=true->(qkq ab j).testBit i=true)
 |[],early,_,p,i,s,e=>by cases p<;>cases e
 |k::late,early,h,p,i,s,e=>by
  simp only[qo3,zgz,zhm,zh0,zhn]at h;obtain⟨⟨h1,h2⟩,h3⟩:=h;cases p with
  |nil=>
   simp only[zhv,List.cons.injEq]at e;obtain⟨rfl,rfl⟩:=e;refine⟨fun j hj=>?_,fun j hj hc=>?_⟩
   ·obtain⟨⟨g1,g2⟩,g3⟩:=h1 j (by simpa using hj);refine⟨fun hc=>?_,g2,fun e=>?_⟩
    ·rcases g1 with g|g
     ·rw[g]at hc;cases hc
     ·exact g
    ·subst e;simp at g3
   ·rcases h2 j hj with g|g
    ·rw[g]at hc;cases hc
    ·exact g
  |cons q p=>
   simp only[zh9,List.cons.injEq]at e;obtain⟨rfl,rfl⟩:=e;have:=qnb (p++i::s) (early++[k]) h3 p i s rfl;simpa using this
theorem qna{A:Array Oper}{D:List Nat}:∀(late early:List Nat),qwa A D early late=true->∀p i s,late=p++i::s->∀e∈qd4 A i,e∈D\/e∈early++p
 |[],early,_,p,i,s,e=>by cases p<;>cases e
 |k::late,early,h,p,i,s,e=>by
  simp only[qwa,zgz,zhm,zh0]at h;obtain⟨h1,h3⟩:=h;cases p with
  |nil=>
   simp only[zhv,List.cons.injEq]at e;obtain⟨rfl,rfl⟩:=e;intro x hx;simpa using h1 x hx
  |cons q p=>
   simp only[zh9,List.cons.injEq]at e;obtain⟨rfl,rfl⟩:=e;have:=qna (p++i::s) (early++[k]) h3 p i s rfl;simpa using this
theorem q4f(A:Array Oper)(i:Nat)(hi:i<A.size):(qda A i).dst=qsh A i:=by
 simp[qda,Oper.gop,qsh,Array.getD,hi]
theorem qlq{X:List Nat}{i:Nat}(h:i∈X):∃p s,X=p++i::s:=List.append_of_mem h
theorem qx3(P:Program){o:Oper}{all:List Oper}{a:Act}{w:World}{K:Act->World->Prop}{Q:Exit->Act->World->Prop}
  (h:(GOp.oper ⟨(Oper.gop all o).dst,(Oper.gop all o).op,(Oper.gop all o).type,none⟩).wp P a w K Q):o.wp P a w K Q:=qx2 P o none a w K Q h
theorem qe8.quiet{A:Array Oper}{J:Nat->Bool}{D:List Nat}{ab:List Nat}(hab:quk A ab)(X:List Nat)(hc:chk A ab D X=true)(h:QS P (qe8 P A J (D++X) Q) (X.map (qda A)) st):qe8 P A J D Q st:=by
 simp only[chk,zgz,zhm,zh0,zif,zhn]at hc;obtain⟨⟨⟨⟨c1,c2⟩,c3⟩,c4⟩,c5⟩:=hc;have hXD:∀i∈X,i<A.size/\i∉D:=fun i hi=>⟨zg4 (c1 i hi).1,fun hm=>by have:=(c1 i hi).2;rw[zhh.2 hm]at this;cases this⟩
 have hnd:X.Nodup:=(qkk X [] c4).1;have hsp:=fun p i s e=>qnb X [] c4 p i s e;have hdst:∀i∈X,(qda A i).dst=qsh A i:=fun i hi=>q4f A i (hXD i hi).1;have hone:q2k A X:=by
  intro i hi j hj t h1 h2;rw[hdst i hi]at h1;rw[hdst j hj]at h2;have key:∀a b,a∈X->b∈X->qsh A a=some t->qsh A b=some t->∀p s,X=p++a::s->b∉p:=by
   intro a b ha hb e1 e2 p s e hm;have:=((hsp p a s e).1 b (by simpa using hm)).2.1;simp[qs6,e1,e2]at this
  obtain⟨p,s,e⟩:=qlq hi;have hjX:=hj;rw[e]at hj;rcases zhj.1 hj with hj|hj
  ·exact absurd hj (key i j hi hjX h1 h2 p s e)
  ·rcases zhr.1 hj with hj|hj
   ·exact hj.symm
   ·obtain⟨p',s',e'⟩:=qlq hj;exact absurd (show i∈p++i::p' by simp) (key j i hjX hi h2 h1 (p++i::p') s' (by rw[e,e'];simp))
 obtain⟨us,hus,hK⟩:=QS.split X st hnd h;refine⟨fun E M F a w fuel listed r hs hl hDn hDlt hfuel=>?_⟩;have main:∀(m:Nat) (S:List Nat),X.length-S.length=m->S.Nodup->(∀x∈S,x∈X)->qsx A (fun k=>k∈D\/k∈S)->∀(F:Nat->Prop) (a:Act) (w:World) (fuel:Nat) (listed:Array Bool),
   Rel E M F (qk2 A us (X.filter (S.contains ·)) st) a w->qhu A listed (D++S)->A.size<=fuel+D.length+S.length->qee P A J (qjj E Q) fuel listed a w:=by
  intro m
  induction m with
  |zero=>
   intro S hm hSn hSX hcl F a w fuel listed r hh hf;have hlen:S.length<=X.length:=qiy S X hSn hSX;have hXS:∀x∈X,x∈S:=qw5 hSn hSX (by omega);have hfil:X.filter (S.contains ·)=X:=List.filter_eq_self.2 fun x hx=>zhh.2 (hXS x hx);rw[hfil]at r;refine hK.out E M F a w fuel listed r hh.1 (fun k hk=>?_) ?_ (fun k hk=>?_) (by rw[zg6];omega)
   ·rw[hh.2 k hk];have e1:(D++S).contains k=true↔(D++X).contains k=true:=by
     rw[zhh,zhh,zhj,zhj];exact⟨fun h=>h.imp id (hSX k),fun h=>h.imp id (hXS k)⟩
    cases h1:(D++S).contains k<;>cases h2:(D++X).contains k<;>simp_all
   ·exact zhq.2 ⟨hDn,hnd,fun x hx y hy e=>(hXD y hy).2 (e▸hx)⟩
   ·rcases zhj.1 hk with h|h
    ·exact hDlt k h
    ·exact(hXD k h).1
  |succ m ih=>
   intro S hm hSn hSX hcl F a w fuel listed r hh hf
   -- an operation that has not been done, the first one
   have hex:∃p i s,X=p++i::s/\i∉S/\∀x∈p,x∈S:=by
    have:∀(Y:List Nat),(∃x∈Y,x∉S)->∃p i s,Y=p++i::s/\i∉S/\∀x∈p,x∈S:=by
     intro Y
     induction Y with
     |nil=>rintro⟨x,hx,_⟩;cases hx
     |cons y Y ihY=>
      rintro⟨x,hx,hxS⟩
      by_cases hy:y∈S
      ·have:x∈Y:=by
        rcases zhr.1 hx with h|h
        ·exact absurd (h▸hy) hxS
        ·exact h
       obtain⟨p,i,s,e,h1,h2⟩:=ihY ⟨x,this,hxS⟩;exact⟨y::p,i,s,by rw[e];rfl,h1,fun z hz=>by
        rcases zhr.1 hz with h|h
        ·exact h▸hy
        ·exact h2 z h⟩
      ·exact⟨[],y,Y,rfl,hy,fun z hz=>by cases hz⟩
    refine this X ?_;by_cases hall:∀x∈X,x∈S
    ·have:=qiy X S hnd hall;omega
    ·exact Classical.byContradiction fun hno=>hall fun x hx=>Classical.byContradiction fun hxS=>hno ⟨x,hx,hxS⟩
   obtain⟨p0,i0,s0,e0,hi0S,hp0⟩:=hex;have hi0X:i0∈X:=by rw[e0];simp
   have hTn:(D++S).Nodup:=zhq.2 ⟨hDn,hSn,fun x hx y hy e=>(hXD y (hSX y hy)).2 (e▸hx)⟩;have hTlt:∀k∈D++S,k<A.size:=fun k hk=>by
    rcases zhj.1 hk with h|h
    ·exact hDlt k h
    ·exact(hXD k (hSX k h)).1
   have hi0T:i0∉D++S:=fun h=>by
    rcases zhj.1 h with h|h
    ·exact(hXD i0 hi0X).2 h
    ·exact hi0S h
   have hlen:(D++S).length+1<=A.size:=by
    have:=qg5 A.size (i0::(D++S)) (zhu.2 ⟨hi0T,hTn⟩) (fun k hk=>by
     rcases zhr.1 hk with h|h
     ·exact h▸(hXD i0 hi0X).1
     ·exact hTlt k h)
    simpa using this
   rw[zg6]at hlen;obtain⟨fuel,rfl⟩:∃f,fuel=f+1:=⟨fuel-1,by omega⟩
   have hrdy0:i0∈Region.ready .any A listed:=hh.qlm (hXD i0 hi0X).1 hi0T (fun e he=>by
    have hm:e∈D++S:=by
     rcases qna X [] c5 p0 i0 s0 e0 e he with h|h
     ·exact zho _ h
     ·exact zh1 _ (hp0 e (by simpa using h))
    exact⟨hm,hTlt e hm⟩)
   refine⟨fun hno=>(by rw[hno]at hrdy0;cases hrdy0),fun i hi=>?_⟩
   obtain⟨hilt,hiT,hiE⟩:=hh.ready hi;have hiE':∀e∈qd4 A i,e∈D\/e∈S:=fun e he=>zhj.1 (hiE e he);have hiX:i∈X:=by
    rcases c3 i hilt with(h|h)|h
    ·exact absurd (zho _ (zhh.1 h)) hiT
    ·exact zhh.1 h
    ·exfalso;have:=hab _ hcl _ _ (h i0 hi0X) hiE';rcases this with h|h
     ·exact(hXD i0 hi0X).2 h
     ·exact hi0S h
   have hiS:i∉S:=fun h=>hiT (zh1 _ h);obtain⟨p,s,e⟩:=qlq hiX;obtain⟨hearly,hlate⟩:=hsp p i s e;have hQG:=hus p i s e;have hndp:(p++i::s).Nodup:=e▸hnd;have hip:i∉p:=fun h=>by
    have:=(zhq.1 hndp).2.2 i h i zg5;exact this rfl
   have hpX:∀x∈p,x∈X:=fun x hx=>by rw[e];exact zho _ hx
   have hpn:p.Nodup:=(zhq.1 hndp).1;have hfX:∀x∈X.filter (S.contains ·),x∈X:=fun x hx=>(zig.1 hx).1;have hfn:(X.filter (S.contains ·)).Nodup:=hnd.filter _;have hfS:∀x,x∈X.filter (S.contains ·)↔x∈S:=fun x=>by
    rw[zig,zhh];exact⟨fun h=>h.2,fun h=>⟨hSX x h,h⟩⟩
   have sub:∀Y:List Nat,(∀x∈Y,x∈X)->q2k A Y:=fun Y hY a ha b hb=>hone a (hY a ha) b (hY b hb)
   -- what the operation looks at stands as in the order of the text
   have hsame:∀t∈looks A i,(qk2 A us p st).env t=(qk2 A us (X.filter (S.contains ·)) st).env t:=by
    intro t ht;by_cases hj:∃j∈X,(qda A j).dst=some t
    ·obtain⟨j,hjX,hjt⟩:=hj;have hcl':qxj A j i=true:=by
      unfold qxj;rw[<- hdst j hjX,hjt];exact(qvg _ _).2 ht
     have hjX':=hjX;rw[e]at hjX';have hjS:j∈p↔j∈S:=by
      constructor
      ·intro hjp;have hb:=(hearly j (by simpa using hjp)).1 hcl';rcases hab _ hcl _ _ hb hiE' with h|h
       ·exact absurd h (hXD j hjX).2
       ·exact h
      ·intro hjS;rcases zhj.1 hjX' with h|h
       ·exact h
       ·rcases zhr.1 h with h|h
        ·exact absurd (h▸hjS) hiS
        ·exfalso;have hb:=hlate j h hcl';rcases hab _ hcl _ _ hb (hcl j (.inr hjS))with h|h
         ·exact(hXD i hiX).2 h
         ·exact hiS h
     by_cases hjp:j∈p
     ·rw[qiu A us t j hjt p st (sub p hpX) hpn hjp,qiu A us t j hjt _ st (sub _ hfX) hfn ((hfS j).2 (hjS.1 hjp))]
     ·rw[qge A us t p st (fun x hx ex=>hjp (by have:=hone x (hpX x hx) j hjX t ex hjt;rw[<- this];exact hx)),
       qge A us t _ st (fun x hx ex=>hjp (hjS.2 (by have:=hone x (hfX x hx) j hjX t ex hjt;rw[<- this];exact(hfS x).1 hx)))]
    ·rw[qge A us t p st (fun x hx ex=>hj ⟨x,hpX x hx,ex⟩),qge A us t _ st (fun x hx ex=>hj ⟨x,hfX x hx,ex⟩)]
   -- the state behind it
   have hset:=hh.set i;have hassoc:(D++S)++[i]=D++(S++[i]):=by simp
   rw[hassoc]at hset;have hnext:∀(F':Nat->Prop) (a':Act) (w':World),Rel E M F' ((qk2 A us (X.filter (S.contains ·)) st).put (qda A i).dst (us i)) a' w'->qee P A J (qjj E Q) fuel (listed.setIfInBounds i true) a' w':=by
    intro F' a' w' r';refine ih (S++[i]) (by simp;omega) (zhq.2 ⟨hSn,by simp,fun x hx y hy exy=>by
     have:y=i:=by simpa using hy
     exact hiS (this▸exy▸hx)⟩) (fun x hx=>?_) ?_ F' a' w' fuel _ ?_ hset (by simp;omega)
    ·rcases zhj.1 hx with h|h
     ·exact hSX x h
     ·have:x=i:=by simpa using h
      exact this▸hiX
    ·intro k hk e' he';rcases hk with hk|hk
     ·rcases hcl k (.inl hk) e' he' with h|h
      ·exact .inl h
      ·exact .inr (zho _ h)
     ·rcases zhj.1 hk with hk|hk
      ·rcases hcl k (.inr hk) e' he' with h|h
       ·exact .inl h
       ·exact .inr (zho _ h)
      ·have:k=i:=by simpa using hk
       subst this;rcases hiE' e' he' with h|h
       ·exact .inl h
       ·exact .inr (zho _ h)
    ·have hfX2:∀x∈X.filter ((S++[i]).contains ·),x∈X:=fun x hx=>(zig.1 hx).1;have hfS2:∀x,x∈X.filter ((S++[i]).contains ·)↔x∈S\/x=i:=fun x=>by
      rw[zig,zhh,zhj]
      constructor
      ·rintro⟨_,h|h⟩
       ·exact .inl h
       ·exact .inr (by simpa using h)
      ·rintro(h|h)
       ·exact⟨hSX x h,.inl h⟩
       ·exact⟨h▸hiX,.inr (by simpa using h)⟩
     refine r'.congr (by rw[qfw,qcr,qfw]) (by rw[qh6,qg2,qh6]) (fun t=>.inl ?_);by_cases hit:(qda A i).dst=some t
     ·rw[qiu A us t i hit _ st (sub _ hfX2) (hnd.filter _) ((hfS2 i).2 (.inr rfl)),hit,qcz,qh6]
     ·rw[qob _ _ _ _ hit];by_cases hj:∃j∈S,(qda A j).dst=some t
      ·obtain⟨j,hjS,hjt⟩:=hj;rw[qiu A us t j hjt _ st (sub _ hfX2) (hnd.filter _) ((hfS2 j).2 (.inl hjS)),qiu A us t j hjt _ st (sub _ hfX) hfn ((hfS j).2 hjS)]
      ·rw[qge A us t _ st (fun x hx ex=>?_),qge A us t _ st (fun x hx ex=>hj ⟨x,(hfS x).1 hx,ex⟩)];rcases(hfS2 x).1 hx with h|h
       ·exact hj ⟨x,h,ex⟩
       ·exact hit (h▸ex)
   have hAi:A[i]?=some (A.getD i default):=by simp[Array.getD,hilt]
   unfold wpOp;rw[hAi];simp only;rw[<- qet A (A.getD i default) a.tmps];have hop:Oper.gop A.toList (A.getD i default)=qda A i:=rfl;rw[hop];have hreads:∀t∈rds (qda A i).op,t∈looks A i:=fun t ht=>by
    simp only[looks,hAi];exact zho _ ht
   have hrun:QO P ⟨(qda A i).dst,(qda A i).op,(qda A i).type,none⟩ (us i) ((qk2 A us p st).only (rds (qda A i).op))->(A.getD i default).wp P a w (fun a' w'=>(J i=true->Grown w w')/\qee P A J (qjj E Q) fuel (listed.setIfInBounds i true) a' w') (qjj E Q):=by
    intro hq;have hrel:Rel E M F ((qk2 A us p st).only (rds (qda A i).op)) a w:=r.congr (by simp only[St.only];rw[qfw,qfw]) (by simp only[St.only];rw[qh6,qh6]) (fun t=>by
     simp only[St.only];cases hm:q2o (rds (qda A i).op) t with
     |false=>exact .inr rfl
     | true=>exact .inl (hsame t (hreads t ((qvg _ _).1 hm))))
    have h1:=hq E M F a w hrel;refine qx3 P (all:=A.toList) ?_;have h2:=Oper.wp_mono (K':=fun a' w'=>(J i=true->Grown w w')/\qee P A J (qjj E Q) fuel (listed.setIfInBounds i true) a' w') (fun a' w' ⟨c,F',ea,g,v⟩=>by
     obtain⟨r2,x2⟩:=r.h.grown g;have v':qay (qk2 A us (X.filter (S.contains ·)) st).heap M F' w' (us i) c:=by
      rw[qfw];simp only[St.only]at v;rw[qfw]at v;exact v
     subst ea;exact⟨fun _=>g.grown,hnext F' _ w' (r.put r2 x2 _ v')⟩) h1
    exact qpc h2
   -- the guard
   cases hg:(qda A i).g with
   |none=>
    have hw:(qda A i).wanted a.tmps=true:=by unfold GOp.wanted;rw[hg]
    rw[hw,if_pos rfl];unfold QG at hQG;rw[hg]at hQG;exact .inl (hrun hQG)
   |some gw=>
    obtain⟨gt,want⟩:=gw;unfold QG at hQG;rw[hg]at hQG;cases gt with
    |none=>exact hQG.elim
    |some t=>
     have hlk:t∈looks A i:=by
      simp only[looks,hAi];refine zh1 _ ?_;simp only[qda,Oper.gop]at hg;cases hgd:(A.getD i default).guard with
      |none=>rw[hgd]at hg;cases hg
      |some jw=>
       obtain⟨j,w0⟩:=jw;rw[hgd]at hg;simp only[zdm,Option.some.injEq,Prod.mk.injEq,zh6]at hg;simp only[hg.1];exact zg5
     rcases hQG with⟨hlt,b,hb,hy,hn⟩|⟨hb,hn⟩
     rotate_left
     ·rw[hsame t hlk]at hb;have hv:=r.env t;rw[hb]at hv;have hw:(qda A i).wanted a.tmps=false:=by
       have hv:a.tmps.getD t undef=undef:=hv;unfold GOp.wanted;simp only[hg];rw[zhl]at hv;cases he:a.tmps[t]? with
       |none=>rfl
       |some v=>
        rw[he,zhi]at hv;subst hv;rfl
      rw[hw,if_neg (by decide)];refine⟨fun _=>Grown.refl w,hnext F _ w ?_⟩;rw[hn];exact r.qgf _ (u:=.und) (v:=undef) rfl
     ·rw[hsame t hlk]at hb;have hv:=r.env t;rw[hb]at hv;have hlt':t<a.tmps.size:=by rw[r.nt,qh6];rw[qh6]at hlt;exact zg4 hlt
      have he':a.tmps[t]?=some (.bool b):=by
       have:a.tmps.getD t undef=.bool b:=hv;rw[zhl,zhp hlt',zhi]at this;rw[zhp hlt',this]
      have hw:(qda A i).wanted a.tmps=(b==want):=by unfold GOp.wanted;simp only[hg,he']
      rw[hw];by_cases hbw:b=want
      ·subst hbw;rw[beq_self_eq_true,if_pos rfl];exact .inl (hrun (hy rfl))
      ·have hb2:b=!want:=by cases b<;>cases want<;>simp_all
       have:(b==want)=false:=by simpa using hbw
       rw[this,if_neg (by decide)];refine⟨fun _=>Grown.refl w,hnext F _ w ?_⟩;rw[hn hb2];exact r.qgf _ (u:=.und) (v:=undef) rfl
 exact main X.length [] (by simp) List.nodup_nil (fun x hx=>by cases hx) (fun i hi e he=>by
  rcases hi with hi|hi
  ·exact .inl (zhh.1 (c2 i hi e he))
  ·cases hi) F a w fuel listed (by
   have:X.filter (([]:List Nat).contains ·)=[]:=by simp
   rw[this];exact r) ⟨hs,fun k hk=>by rw[zht];exact hl k hk⟩ (by simpa using hfuel)
def zc0(A:Array Oper)(ab:List Nat)(D:List Nat)(e:Nat):Bool:=
 Nat.blt e A.size&&!D.contains e&&(D.all fun k=>(qd4 A k).all fun e=>D.contains e)&&((qd4 A e).all fun x=>D.contains x) &&
 (List.range A.size).all fun k=>D.contains k||Nat.beq k e||(qkq ab k).testBit e
theorem qx4{A:Array Oper}{Q:Exit->Act->World->Prop}{i:Nat}{o:Oper}{K:Act->World->Prop}{a:Act}{w:World}(h:A[i]?=some o) :
  wpOp P A Q i K a w=if Region.wanted o (yielded A a.tmps)then o.wp P a w K Q\/(o.asks P a w/\LetsOut Q)else K (a.put o.dst undef) w:=by
 unfold wpOp;rw[h]
def qg4(K:St->Prop):Exit->St->Prop
 |.normal,st=>K st
 |_,_=>False
structure SLG(P:Program)(g:GOp)(K:St->Prop)(st:St):Prop where
 out:∀E M F a w,Rel E M F st a w->g.g=none/\g.oper.wp P a w (fun a' w'=>Grown w w'/\∃ι' F' st',Rel E ι' F' st' a' w'/\K st') (fun _ _ _=>False)
theorem qe8.zbn{A:Array Oper}{J:Nat->Bool}{D:List Nat}(e:Nat)(hlt:e<A.size)(hiD:e∉D)
  (h:(J e=false/\SL P [qda A e] (qg4 (qe8 P A J (D++[e]) Q)) st)\/SLG P (qda A e) (qe8 P A J (D++[e]) Q) st) :
  ∀E M F a w fuel (listed:Array Bool),Rel E M F st a w->qhu A listed D->D.Nodup->(∀k∈D,k<A.size)->A.size<=fuel+1+D.length ->
   wpOp P A (qjj E Q) e (fun a' w'=>(J e=true->Grown w w')/\qee P A J (qjj E Q) fuel (listed.setIfInBounds e true) a' w') a w:=by
 intro E M F a w fuel listed r hh hDn hDlt hfuel;have hAi:A[e]?=some (A.getD e default):=by simp[Array.getD,hlt]
 have hnext:∀ι' F' st' a' w',Rel E ι' F' st' a' w'->qe8 P A J (D++[e]) Q st'->qee P A J (qjj E Q) fuel (listed.setIfInBounds e true) a' w':=by
  intro ι' F' st' a' w' r' hk;have hset:=hh.set e;exact hk.out E ι' F' a' w' fuel _ r' hset.1 hset.2 (zhq.2 ⟨hDn,by simp,fun x hx y hy exy=>by
   have:y=e:=by simpa using hy
   exact hiD (this▸exy▸hx)⟩) (fun k hk=>by
    rcases zhj.1 hk with h|h
    ·exact hDlt k h
    ·have:k=e:=by simpa using h
     exact this▸hlt) (by simp;omega)
 have hop:Oper.gop A.toList (A.getD e default)=qda A e:=rfl;rw[qx4 hAi,<- qet A (A.getD e default) a.tmps,hop];rcases h with⟨hJ,h⟩|h
 ·have h1:=h.out E M F a w r;simp only[lwp]at h1;have hn2:∀a' w',qjj E (qg4 (qe8 P A J (D++[e]) Q)) .normal a' w'->(J e=true->Grown w w')/\qee P A J (qjj E Q) fuel (listed.setIfInBounds e true) a' w':=by
   rintro a' w' ⟨ι',F',st',r',hk⟩
   exact⟨fun hj=>(by rw[hJ]at hj;cases hj),hnext _ _ _ _ _ r' hk⟩
  by_cases hw:(qda A e).wanted a.tmps=true
  ·rw[if_pos hw]at h1 ⊢;have h2:=Oper.wp_mono hn2 h1;refine .inl (qx3 P (all:=A.toList) (qpc ?_));have h3:∀(o:Oper) (K:Act->World->Prop),o.wp P a w K (qjj E (qg4 (qe8 P A J (D++[e]) Q)))->o.wp P a w K (fun _ _ _=>False):=by
    intro o K hk;unfold Oper.wp at hk ⊢;generalize (execOp a.eval o).run P w=res at hk ⊢;cases res with
    |ok n w'=>
     cases n<;>simp only[Oper.upon]at hk⊢<;> first|exact hk|exact Calls.mono hk (fun e w'' he=>by cases e<;>first|exact he|exact he.elim|(obtain⟨a,w,he⟩:=he;exact he.elim))
    |halt x w'=>cases x<;>simp only[Oper.upon]at hk⊢<;> exact hk
   exact h3 _ _ h2
  ·rw[if_neg hw]at h1 ⊢;exact hn2 _ _ h1
 ·obtain⟨hg,h1⟩:=h.out E M F a w r;have hw:(qda A e).wanted a.tmps=true:=by unfold GOp.wanted;rw[hg]
  rw[if_pos hw];refine .inl (qx3 P (all:=A.toList) (qpc ?_));have e1:(GOp.oper ⟨(qda A e).dst,(qda A e).op,(qda A e).type,none⟩)=(qda A e).oper:=rfl;rw[hop,e1];exact Oper.wp_mono (fun a' w' ⟨g,ι',F',st',r',hk⟩=>⟨fun _=>g,hnext _ _ _ _ _ r' hk⟩) h1
theorem qe8.step{A:Array Oper}{J:Nat->Bool}{D:List Nat}{ab:List Nat}(hab:quk A ab)(e:Nat)(hc:zc0 A ab D e=true)(h:(J e=false/\SL P [qda A e] (qg4 (qe8 P A J (D++[e]) Q)) st)\/SLG P (qda A e) (qe8 P A J (D++[e]) Q) st):qe8 P A J D Q st:=by
 simp only[zc0,zgz,zhm,zh0,zif,zhn]at hc;obtain⟨⟨⟨⟨c1,c2⟩,c3⟩,c4⟩,c5⟩:=hc;have helt:e<A.size:=zg4 c1;have heD:e∉D:=fun hm=>by rw[zhh.2 hm]at c2;cases c2
 refine⟨fun E M F a w fuel listed r hs hl hDn hDlt hfuel=>?_⟩;have hh:qhu A listed D:=⟨hs,hl⟩
 have hrdy:e∈Region.ready .any A listed:=hh.qlm helt heD (fun x hx=>⟨zhh.1 (c4 x hx),hDlt x (zhh.1 (c4 x hx))⟩);have hlen:D.length+1<=A.size:=by
  have:=qg5 A.size (e::D) (zhu.2 ⟨heD,hDn⟩) (fun k hk=>by
   rcases zhr.1 hk with h|h
   ·exact h▸helt
   ·exact hDlt k h)
  simpa using this
 obtain⟨fuel,rfl⟩:∃f,fuel=f+1:=⟨fuel-1,by omega⟩
 refine⟨fun hno=>(by rw[hno]at hrdy;cases hrdy),fun i hi=>?_⟩
 obtain⟨hilt,hiD,hiE⟩:=hh.ready hi;have hie:i=e:=by
  rcases c5 i hilt with(h|h)|h
  ·exact absurd (zhh.1 h) hiD
  ·exact zg2 h
  ·exact absurd (hab (fun k=>k∈D) (fun k hk x hx=>zhh.1 (c3 k hk x hx)) _ _ h hiE) heD
 subst hie;exact qe8.zbn i helt heD h E M F a w fuel listed r hh hDn hDlt (by omega)
def q38(A:Array Oper)(D:List Nat):List Nat:=(List.range A.size).filter fun k=>!D.contains k&&(qd4 A k).all fun e=>D.contains e
theorem qe8.branch{A:Array Oper}{J:Nat->Bool}{D:List Nat}(hne:(q38 A D).isEmpty=false)(h:∀e∈q38 A D,(J e=false/\SL P [qda A e] (qg4 (qe8 P A J (D++[e]) Q)) st)\/SLG P (qda A e) (qe8 P A J (D++[e]) Q) st):qe8 P A J D Q st:=by
 have mem:∀e,e∈q38 A D->e<A.size/\e∉D/\∀x∈qd4 A e,x∈D:=fun e he=>by
  simp only[q38,zig,zif,zgz,zhn,zhm]at he;exact⟨he.1,fun hm=>(by rw[zhh.2 hm]at he;cases he.2.1),fun x hx=>zhh.1 (he.2.2 x hx)⟩
 obtain⟨e0,he0⟩:∃e,e∈q38 A D:=by
  cases hr:q38 A D with
  |nil=>rw[hr]at hne;cases hne
  |cons x l=>exact⟨x,zg5⟩
 refine⟨fun E M F a w fuel listed r hs hl hDn hDlt hfuel=>?_⟩;have hh:qhu A listed D:=⟨hs,hl⟩
 obtain⟨m1,m2,m3⟩:=mem e0 he0;have hrdy:e0∈Region.ready .any A listed:=hh.qlm m1 m2 (fun x hx=>⟨m3 x hx,hDlt x (m3 x hx)⟩);have hlen:D.length+1<=A.size:=by
  have:=qg5 A.size (e0::D) (zhu.2 ⟨m2,hDn⟩) (fun k hk=>by
   rcases zhr.1 hk with h|h
   ·exact h▸m1
   ·exact hDlt k h)
  simpa using this
 obtain⟨fuel,rfl⟩:∃f,fuel=f+1:=⟨fuel-1,by omega⟩
 refine⟨fun hno=>(by rw[hno]at hrdy;cases hrdy),fun i hi=>?_⟩
 obtain⟨hilt,hiD,hiE⟩:=hh.ready hi;refine qe8.zbn i hilt hiD (h i ?_) E M F a w fuel listed r hh hDn hDlt (by omega);simp only[q38,zig,zif,zgz,zhn,zhm];refine⟨hilt,?_,fun x hx=>zhh.2 (hiE x hx)⟩;cases hc:D.contains i with
 |false=>rfl
 |true=>exact absurd (zhh.1 hc) hiD
end Go.Abs
namespace Go.Abs
open Go
variable {P:Program} {Q:Exit->St->Prop} {st:St}
def ints(l:List Int):T:=.sl 1 l.length (fun i _=>.int .i64 (l.getD i 0))
def rows{α:Type}(sz:Nat)(d:α)(e:α->Nat->T)(l:List α):T:=.sl sz l.length (fun i j=>e (l.getD i d) j)
structure qau where
 op:Int
 dest:Int
 args:List Int
 num:Int
 mem:Int
deriving DecidableEq
structure Edge where
 block:Int
 args:List Int
deriving DecidableEq
structure Term where
 kind:Int
 cond:Int
 to:List Edge
 qa4:List Int
deriving DecidableEq
structure Block where
 params:List Int
 insts:List qau
 term:Term
 qar:Int
 qba:Int
 line:Int
deriving DecidableEq
structure Arr where
 name:ByteArray
 width:Int
 len:Int
 kind:Int
 factor:Int
deriving DecidableEq
structure qbp where
 name:ByteArray
 width:Int
 out:Bool
deriving DecidableEq
structure Fn where
 name:ByteArray
 qab:List Int
 qao:List Arr
 streams:List qbp
 qa4:List Int
 blocks:List Block
deriving DecidableEq
def qau.z:qau:=⟨0,0,[],0,0⟩
def Edge.z:Edge:=⟨0,[]⟩
def Term.z:Term:=⟨0,0,[],[]⟩
def Block.z:Block:=⟨[],[],Term.z,0,0,0⟩
def Arr.z:Arr:=⟨ByteArray.empty,0,0,0,0⟩
def qbp.z:qbp:=⟨ByteArray.empty,0,false⟩
def qau.e(x:qau):Nat->T
 |0=>.int .i64 x.op
 |1=>.int .i64 x.dest
 |2=>ints x.args
 |3=>.int .u64 x.num
 |4=>.int .i64 x.mem
 |_=>.any
def Edge.e(x:Edge):Nat->T
 |0=>.int .i64 x.block
 |1=>ints x.args
 |_=>.any
def Term.e(x:Term):Nat->T
 |0=>.int .i64 x.kind
 |1=>.int .i64 x.cond
 |2=>rows 2 Edge.z Edge.e x.to
 |3=>ints x.qa4
 |_=>.any
def Block.e(x:Block):Nat->T
 |0=>ints x.params
 |1=>rows 5 qau.z qau.e x.insts
 |2=>.int .i64 x.term.kind
 |3=>.int .i64 x.term.cond
 |4=>rows 2 Edge.z Edge.e x.term.to
 |5=>ints x.term.qa4
 |6=>.int .i64 x.qar
 |7=>.int .i64 x.qba
 |8=>.int .i64 x.line
 |_=>.any
def Arr.e(x:Arr):Nat->T
 |0=>.str x.name
 |1=>.int .i64 x.width
 |2=>.int .i64 x.len
 |3=>.int .i64 x.kind
 |4=>.int .i64 x.factor
 |_=>.any
def qbp.e(x:qbp):Nat->T
 |0=>.str x.name
 |1=>.int .i64 x.width
 |2=>.bool x.out
 |_=>.any
def Fn.e(x:Fn):Nat->T
 |0=>.str x.name
 |1=>ints x.qab
 |2=>rows 5 Arr.z Arr.e x.qao
 |3=>rows 3 qbp.z qbp.e x.streams
 |4=>ints x.qa4
 |5=>rows 9 Block.z Block.e x.blocks
 |_=>.any
def Fn.v(x:Fn):V:=.agg 6 (fun j=>.t (x.e j))
theorem qd2{z:Int}(h1 : -9223372036854775808<=z)(h2:z<=9223372036854775807):IntKind.i64.wrap z=z:=IntWalk.i64_in _ (by omega)
end Go.Abs
namespace Go.Abs
open Go
def qpb(w:World)(b:Nat):Prop:=b<w.heap.size
def I64(n:Int):Prop:=-9223372036854775808<=n/\n<=9223372036854775807
def U64(n:Int):Prop:=0<=n/\n<=18446744073709551615
def zc7(s:ByteArray):Prop:=s.size<=9223372036854775807
def All{α:Type}(by_:Nat)(ok:α->Prop)(l:List α):Prop:=l.length*by_<=reachBytes/\∀a∈l,ok a
theorem All.len{α:Type}{by_:Nat}{ok:α->Prop}{l:List α}(h:All by_ ok l)(hb:by_≠0:=by decide):l.length<=LEN:=by
 have h1:=h.1;have:l.length*1<=l.length*by_:=Nat.mul_le_mul_left _ (by omega);simp only[reachBytes]at h1;simp only[LEN];omega
def Wt{H:Type}(P:Program)(t:TypeId)(d:DataW H):Prop:=(d.weights P t).all (·<=reachBytes)=true
def Cells(w:World)(n:Nat)(g:Nat->T)(cs:List Value):Prop:=cs.length=n/\∀j,j<n->∃c,cs[j]?=some c/\Reads (qpb w) w (g j) c
structure qbi(P:Program)(t:TypeId)(n:Nat){α:Type}(e:α->Nat->T)(ok:α->Prop):Prop where
 sz:P.cellsOf t=n
 out:∀(H:Type) (enc:TypeId×Value->H) (w:World) (spare:Nat->Bool) (fuel:Nat) (cs:List Value) (x:DataW H×List MemPlace),
  DataW.trod enc P w 0 spare true fuel t cs=some x->Wt P t x.1->∃a,ok a/\Cells w n (e a) cs
variable {P:Program} {t:TypeId}
theorem qbi.i64(h:P.underlying t=some (.int .i64))(hs:P.cellsOf t=1):qbi P t 1 (fun a _=>.int .i64 a) I64:=
 ⟨hs,fun H enc w spare fuel cs x hx _=>by
  obtain⟨n,rfl,-,hw⟩:=DataW.trod_int h hx;have h1:IntKind.i64.min=-9223372036854775808:=rfl;have h2:IntKind.i64.max=9223372036854775807:=rfl;simp only[Lit.wf,zgz,decide_eq_true_eq,h1,h2]at hw;exact⟨n,hw,rfl,fun j hj=>⟨_,by obtain rfl:j=0:=(by omega);rfl,rfl⟩⟩⟩
theorem qbi.u64(h:P.underlying t=some (.int .u64))(hs:P.cellsOf t=1):qbi P t 1 (fun a _=>.int .u64 a) U64:=
 ⟨hs,fun H enc w spare fuel cs x hx _=>by
  obtain⟨n,rfl,-,hw⟩:=DataW.trod_int h hx;have h1:IntKind.u64.min=0:=rfl;have h2:IntKind.u64.max=18446744073709551615:=rfl;simp only[Lit.wf,zgz,decide_eq_true_eq,h1,h2]at hw;exact⟨n,hw,rfl,fun j hj=>⟨_,by obtain rfl:j=0:=(by omega);rfl,rfl⟩⟩⟩
theorem qbi.bool(h:P.underlying t=some .bool)(hs:P.cellsOf t=1):qbi P t 1 (fun a _=>.bool a) (fun _=>True):=
 ⟨hs,fun H enc w spare fuel cs x hx _=>by
  obtain⟨n,rfl,-⟩:=DataW.trod_bool h hx;exact⟨n,trivial,rfl,fun j hj=>⟨_,by obtain rfl:j=0:=(by omega);rfl,rfl⟩⟩⟩
theorem qbi.str(h:P.underlying t=some .string)(hs:P.cellsOf t=1):qbi P t 1 (fun a _=>.str a) zc7:=
 ⟨hs,fun H enc w spare fuel cs x hx _=>by
  obtain⟨n,rfl,-,hw⟩:=DataW.trod_string h hx;exact⟨n,hw,rfl,fun j hj=>⟨_,by obtain rfl:j=0:=(by omega);rfl,rfl,hw⟩⟩⟩
theorem q04{α:Type}(d:α){p:Nat->α->Prop}:∀n,(∀i,i<n->∃a,p i a)->∃l:List α,l.length=n/\∀i,i<n->p i (l.getD i d)
 |0,_=>⟨[],rfl,fun i hi=>absurd hi (zhf _)⟩
 |n+1,h=>by
  obtain⟨l,hl,hp⟩:=q04 d (p:=p) n (fun i hi=>h i (by omega));obtain⟨a,ha⟩:=h n (by omega);refine⟨l++[a],by simp[hl],fun i hi=>?_⟩;by_cases hin:i<n
  ·have:=hp i hin;simpa[zg0,ziz (show i<l.length by omega)]using this
  ·obtain rfl:i=n:=by omega
   simpa[zg0,List.getElem?_append_right (show l.length<=i by omega),hl]using ha
theorem qhv{H:Type}{t:TypeId}:∀ {l:List (DataW H)} {d:DataW H},d∈l->∀n∈d.weights P t,n∈DataW.weightsAll P t l
 |x::l,d,hd,n,hn=>by
  simp only[DataW.weightsAll,zhj];rcases zhr.1 hd with rfl|hd
  ·exact .inl hn
  ·exact .inr (qhv hd n hn)
theorem q87{w:World}{a:Addr}{v:Value}(h:w.cell? a=some v):a.block<w.heap.size:=by
 unfold World.cell? at h;rcases Nat.lt_or_ge a.block w.heap.size with hb|hb
 ·exact hb
 ·have:w.heap[a.block]?=none:=zi1 hb;split at h
  ·rename_i heq;rw[this]at heq;cases heq
  ·cases h
theorem qbi.slice{el:TypeId}{s by_:Nat}{α:Type}{e:α->Nat->T}{ok:α->Prop}(d:α)(O:qbi P el s e ok)(hu:P.underlying t=some (.slice el))(hs:P.cellsOf t=1)(hb:P.bytesOf el=by_)(h0:by_≠0)(h1:s≠0) :
  qbi P t 1 (fun l _=>rows s d e l) (All by_ ok):=
 ⟨hs,fun H enc w spare fuel cs x hx hw=>by
  rcases DataW.trod_slice hu hx with⟨rfl,-⟩|⟨a,len,cap,elems,rest,n,rfl,rfl,rfl,-,hlc,-,hel,hget,-,-⟩
  ·exact⟨[],⟨(by simp)    ,fun a ha=>by cases ha⟩,rfl,fun j hj=>⟨_,by obtain rfl:j=0:=(by omega);rfl,none,0,rfl,zg3 _,Nat.zero_le _,fun h=>absurd h (zio _)⟩⟩
  ·simp only[Wt,DataW.weights,hu,hb,List.all_cons,zgz,decide_eq_true_eq,zha,List.all_append]at hw;obtain⟨hw1,hw2,-⟩:=hw;have hlen2:len*by_<=reachBytes:=zhy (zie _ (by omega)) hw1;have hlen:len<=LEN:=by
    have:len*1<=(elems.length+rest.length)*by_:=Nat.mul_le_mul (by omega) (by omega);simp only[reachBytes]at hw1;simp only[LEN];omega
   have key:∀i,i<len->∃b,ok b/\∀j,j<s->∃c,w.cell? ((a.add (i*s)).add j)=some c/\Reads (qpb w) w (e b j) c:=by
    intro i hi;have hi':i<elems.length:=by omega
    have hg:=hget i hi;rw[zhb hi',O.sz,Option.bind_eq_some_iff]at hg;obtain⟨cs',hc,ht⟩:=hg;obtain⟨b,hob,hl,hr⟩:=O.out H enc w spare n cs' elems[i] ht (by
     unfold Wt;rw[zhm]at hw2 ⊢;exact fun m hm=>hw2 m (qhv (zhk.2 ⟨elems[i],zh4 hi',rfl⟩) m hm))
    refine⟨b,hob,fun j hj=>?_⟩;obtain⟨c,hc1,hc2⟩:=hr j hj;unfold World.cells? at hc;split at hc
    ·have:=mapM_some_get hc j j (by simp[hj]);exact⟨c,this.trans hc1,hc2⟩
    ·cases hc
   obtain⟨l,hll,hlp⟩:=q04 d len key;have hj0:∀j,j<1->j=0:=fun j hj=>by omega
   refine⟨l,⟨by rw[hll];exact hlen2,fun b hb=>?_⟩,rfl,fun j hj=>⟨.slice (some a) len cap,by rw[hj0 j hj];rfl,some a,cap,by rw[hll],by omega,by omega,fun hn=>?_⟩⟩
   ·obtain⟨i,hi,rfl⟩:=zis hb;have:=(hlp i (by omega)).1;simpa[zg0,hi]using this
   ·obtain⟨c0,hc0,_⟩:=(hlp 0 (by omega)).2 0 (by omega);have hsp:a.spot=none:=by
     have:=World.cell?_spot hc0;simpa[Addr.add]using this
    have hbl:a.block<w.heap.size:=by simpa[Addr.add]using q87 hc0
    obtain⟨b,o,sp⟩:=a;simp only at hsp hbl;subst hsp;refine⟨b,o,rfl,hbl,fun i hi j hj=>?_⟩;obtain⟨c,hc1,hc2⟩:=(hlp i (by omega)).2 j hj;refine⟨c,?_,hc2⟩;rw[<- hc1];congr 1;simp only[Addr.add]
    split<;>split<;>simp_all<;>omega⟩
theorem qbi.fld{fs:Array Field}(hu:P.underlying t=some (.struct fs)){i:Nat}{f:Field}(hf:fs[i]?=some f){off s:Nat}(ho:f.offset=off){α:Type}{e:α->Nat->T}{ok:α->Prop}(O:qbi P f.type s e ok)
  {H:Type} {enc:TypeId×Value->H} {w:World} {spare:Nat->Bool} {fuel:Nat} {cs:List Value} {x:DataW H×List MemPlace} (hx:DataW.trod enc P w 0 spare true fuel t cs=some x) (hw:Wt P t x.1) :
  ∃a,ok a/\∀j,j<s->∃c,cs[off+j]?=some c/\Reads (qpb w) w (e a j) c:=by
 obtain⟨xs,n,rfl,rfl,hl,hxl,hx⟩:=DataW.trod_struct hu hx;have h:=hx i f hf;have hi:i<xs.length:=by
  rw[hxl];exact(zic.1 hf).1
 rw[zhb hi,O.sz,ho]at h;obtain⟨a,hok,hlen,hr⟩:=O.out H enc w spare n _ _ h (by
  simp only[Wt,DataW.weights,hu]at hw;unfold Wt;rw[zhm]at hw ⊢;exact fun m hm=>hw m (DataW.weights_mem_each (j:=i) (t:=f.type) (d:=xs[i].1) (by simp[hf]) (by simp[hi]) m hm))
 refine⟨a,hok,fun j hj=>?_⟩;obtain⟨c,hc1,hc2⟩:=hr j hj;refine⟨c,?_,hc2⟩;rw[<- hc1,List.getElem?_take,if_pos (by omega),List.getElem?_drop]
theorem qbi.len{fs:Array Field}(hu:P.underlying t=some (.struct fs)){H:Type}{enc:TypeId×Value->H}{w:World}{spare:Nat->Bool}{fuel:Nat}{cs:List Value}{x:DataW H×List MemPlace}(hx:DataW.trod enc P w 0 spare true fuel t cs=some x) :
  cs.length=P.cellsOf t:=by
 obtain⟨xs,n,rfl,rfl,hl,hxl,hx⟩:=DataW.trod_struct hu hx;exact hl
theorem qbi.top{fs:Array Field}(hu:P.underlying t=some (.struct fs)){n:Nat}{α:Type}{e:α->Nat->T}{ok:α->Prop}(O:qbi P t n e ok)
  {H:Type} {enc:TypeId×Value->H} {W:World} {spare:Nat->Bool} {r:Reach} {base:Nat} {v:Value} {d:DataW H} {ps:List MemPlace}
  (hval:Value.okWide P W r base t v) (h:DataW.Trod enc P W 0 spare true t v d ps) (hw:Wt P t d) :
  ∃a,ok a/\qay qbe.none noι (qpb W) W (.agg n (fun j=>.t (e a j))) v:=by
 simp only[Value.okWide,hu]at hval;obtain⟨cs,rfl,-,-⟩:=hval;obtain⟨fuel,hf⟩:=h;obtain⟨a,hok,hl,hr⟩:=O.out H enc W spare fuel _ _ hf hw;refine⟨a,hok,cs,rfl,by simpa[Value.cells]using hl,fun j hj=>?_⟩;obtain⟨c,hc1,hc2⟩:=hr j hj;exact⟨c,by simpa[Value.cells]using hc1,hc2.plain,hc2⟩
theorem Wt.at_{H:Type}{ts:List TypeId}{ds:List (DataW H)}(h:(DataW.weightsEach P ts ds).all (·<=reachBytes)=true){j:Nat}{d:DataW H}(ht:ts[j]?=some t)(hd:ds[j]?=some d):Wt P t d:=by
 unfold Wt;rw[zhm]at h ⊢;exact fun m hm=>h m (DataW.weights_mem_each ht hd m hm)
theorem PC.row{f:FuncId}{args:List V}{b:Bool}(h:PC P f args (.t (.bool b))){W:World}{cargs:Array Value}(hl:args.length=cargs.size)
  (ha:∀j,j<args.length->qay qbe.none noι (qpb W) W (args.getD j .un) (cargs.getD j undef)) :
  Calls P f cargs W fun e W'=>e=.returned (.bool b)/\RowKit.Below W.heap.size W W':=by
 refine(h.out (qpb W) W cargs (fun _ h=>h) hl ha).mono fun e W' ⟨cv,F',h1,h2,h3,h4,h5,h6,h7,h8,h9,h10⟩=>?_;have:cv=.bool b:=h10;subst this;exact⟨h1,h2,h3,h4,h5,h6⟩
def qau.ok(x:qau):Prop:=I64 x.op/\I64 x.dest/\All 8 I64 x.args/\U64 x.num/\I64 x.mem
def Edge.ok(x:Edge):Prop:=I64 x.block/\All 8 I64 x.args
def Term.ok(x:Term):Prop:=I64 x.kind/\I64 x.cond/\All 32 Edge.ok x.to/\All 8 I64 x.qa4
def Block.ok(x:Block):Prop:=All 8 I64 x.params/\All 56 qau.ok x.insts/\Term.ok x.term/\I64 x.qar/\I64 x.qba/\I64 x.line
def Arr.ok(x:Arr):Prop:=zc7 x.name/\I64 x.width/\I64 x.len/\I64 x.kind/\I64 x.factor
def qbp.ok(x:qbp):Prop:=zc7 x.name/\I64 x.width/\True
def Fn.ok(x:Fn):Prop:=zc7 x.name/\All 8 I64 x.qab/\All 48 Arr.ok x.qao/\All 32 qbp.ok x.streams/\All 8 I64 x.qa4/\All 136 Block.ok x.blocks
end Go.Abs
namespace Go.Abs
open Go Go.Proofs
instance:qb6 Try.prog 2 false 1:=⟨⟨_,Try.underlying2,rfl⟩,by kernel_rfl⟩
instance:qdx Try.prog 2 (.int .i64):=⟨Try.underlying2⟩
instance:qbb Try.prog 2 (.int .i64 0):=⟨by kernel_rfl,by kernel_rfl⟩
instance:qb6 Try.prog 3 false 1:=⟨⟨_,Try.underlying3,rfl⟩,by kernel_rfl⟩
instance:qdx Try.prog 3 (.int .i64):=⟨Try.underlying3⟩
instance:qbb Try.prog 3 (.int .i64 0):=⟨by kernel_rfl,by kernel_rfl⟩
instance:qb6 Try.prog 4 false 1:=⟨⟨_,Try.underlying4,rfl⟩,by kernel_rfl⟩
instance:qdx Try.prog 4 .bool:=⟨Try.underlying4⟩
instance:qbb Try.prog 4 (.bool false):=⟨by kernel_rfl,by kernel_rfl⟩
instance:qb6 Try.prog 5 false 1:=⟨⟨_,Try.underlying5,rfl⟩,by kernel_rfl⟩
instance:qdx Try.prog 5 (.int .u8):=⟨Try.underlying5⟩
instance:qbb Try.prog 5 (.int .u8 0):=⟨by kernel_rfl,by kernel_rfl⟩
instance:qb6 Try.prog 9 false 1:=⟨⟨_,Try.underlying9,rfl⟩,by kernel_rfl⟩
instance:qdx Try.prog 9 .string:=⟨Try.underlying9⟩
instance:qbb Try.prog 9 (.string ByteArray.empty):=⟨by kernel_rfl,by kernel_rfl⟩
instance:qb6 Try.prog 23 false 1:=⟨⟨_,Try.underlying23,rfl⟩,by kernel_rfl⟩
instance:qbb Try.prog 23 (.nilFunc):=⟨by kernel_rfl,by kernel_rfl⟩
instance:qb6 Try.prog 24 false 1:=⟨⟨_,Try.underlying24,rfl⟩,by kernel_rfl⟩
instance:qbb Try.prog 24 (.nilFunc):=⟨by kernel_rfl,by kernel_rfl⟩
instance:qb6 Try.prog 25 false 1:=⟨⟨_,Try.underlying25,rfl⟩,by kernel_rfl⟩
instance:qbb Try.prog 25 (.slice none 0 0):=⟨by kernel_rfl,by kernel_rfl⟩
instance:qb2 Try.prog 25 3 1 8:=⟨Try.underlying25,by kernel_rfl⟩
instance:qb6 Try.prog 26 false 1:=⟨⟨_,Try.underlying26,rfl⟩,by kernel_rfl⟩
instance:qbb Try.prog 26 (.slice none 0 0):=⟨by kernel_rfl,by kernel_rfl⟩
instance:qb2 Try.prog 26 53 5 48:=⟨Try.underlying26,by kernel_rfl⟩
instance:qb6 Try.prog 27 false 1:=⟨⟨_,Try.underlying27,rfl⟩,by kernel_rfl⟩
instance:qbb Try.prog 27 (.slice none 0 0):=⟨by kernel_rfl,by kernel_rfl⟩
instance:qb2 Try.prog 27 55 3 32:=⟨Try.underlying27,by kernel_rfl⟩
instance:qb6 Try.prog 28 false 1:=⟨⟨_,Try.underlying28,rfl⟩,by kernel_rfl⟩
instance:qbb Try.prog 28 (.slice none 0 0):=⟨by kernel_rfl,by kernel_rfl⟩
instance:qb2 Try.prog 28 41 9 136:=⟨Try.underlying28,by kernel_rfl⟩
instance:qb6 Try.prog 30 true 6:=⟨⟨_,Try.underlying30,rfl⟩,by kernel_rfl⟩
instance:qbb Try.prog 30 (.agg #[.string ByteArray.empty,.slice none 0 0,.slice none 0 0,.slice none 0 0,.slice none 0 0,.slice none 0 0]):=⟨by kernel_rfl,by kernel_rfl⟩
instance:qb6 Try.prog 36 false 1:=⟨⟨_,Try.underlying36,rfl⟩,by kernel_rfl⟩
instance:qbb Try.prog 36 (.slice none 0 0):=⟨by kernel_rfl,by kernel_rfl⟩
instance:qb2 Try.prog 36 46 5 56:=⟨Try.underlying36,by kernel_rfl⟩
instance:qb6 Try.prog 37 false 1:=⟨⟨_,Try.underlying37,rfl⟩,by kernel_rfl⟩
instance:qbb Try.prog 37 (.slice none 0 0):=⟨by kernel_rfl,by kernel_rfl⟩
instance:qb2 Try.prog 37 51 2 32:=⟨Try.underlying37,by kernel_rfl⟩
instance:qb6 Try.prog 39 true 4:=⟨⟨_,Try.underlying39,rfl⟩,by kernel_rfl⟩
instance:qbb Try.prog 39 (.agg #[.int .i64 0,.int .i64 0,.slice none 0 0,.slice none 0 0]):=⟨by kernel_rfl,by kernel_rfl⟩
instance:qb6 Try.prog 41 true 9:=⟨⟨_,Try.underlying41,rfl⟩,by kernel_rfl⟩
instance:qbb Try.prog 41 (.agg #[.slice none 0 0,.slice none 0 0,.int .i64 0,.int .i64 0,.slice none 0 0,.slice none 0 0,.int .i64 0,.int .i64 0,.int .i64 0]):=⟨by kernel_rfl,by kernel_rfl⟩
instance:qb6 Try.prog 44 false 1:=⟨⟨_,Try.underlying44,rfl⟩,by kernel_rfl⟩
instance:qdx Try.prog 44 (.int .u64):=⟨Try.underlying44⟩
instance:qbb Try.prog 44 (.int .u64 0):=⟨by kernel_rfl,by kernel_rfl⟩
instance:qb6 Try.prog 46 true 5:=⟨⟨_,Try.underlying46,rfl⟩,by kernel_rfl⟩
instance:qbb Try.prog 46 (.agg #[.int .i64 0,.int .i64 0,.slice none 0 0,.int .u64 0,.int .i64 0]):=⟨by kernel_rfl,by kernel_rfl⟩
instance:qb6 Try.prog 51 true 2:=⟨⟨_,Try.underlying51,rfl⟩,by kernel_rfl⟩
instance:qbb Try.prog 51 (.agg #[.int .i64 0,.slice none 0 0]):=⟨by kernel_rfl,by kernel_rfl⟩
instance:qb6 Try.prog 53 true 5:=⟨⟨_,Try.underlying53,rfl⟩,by kernel_rfl⟩
instance:qbb Try.prog 53 (.agg #[.string ByteArray.empty,.int .i64 0,.int .i64 0,.int .i64 0,.int .i64 0]):=⟨by kernel_rfl,by kernel_rfl⟩
instance:qb6 Try.prog 55 true 3:=⟨⟨_,Try.underlying55,rfl⟩,by kernel_rfl⟩
instance:qbb Try.prog 55 (.agg #[.string ByteArray.empty,.int .i64 0,.bool false]):=⟨by kernel_rfl,by kernel_rfl⟩
instance:qb6 Try.prog 57 true 2:=⟨⟨_,Try.underlying57,rfl⟩,by kernel_rfl⟩
instance:qbb Try.prog 57 (.agg #[.int .i64 0,.bool false]):=⟨by kernel_rfl,by kernel_rfl⟩
instance:qb6 Try.prog 58 true 4:=⟨⟨_,Try.underlying58,rfl⟩,by kernel_rfl⟩
instance:qbb Try.prog 58 (.agg #[.int .i64 0,.bool false,.int .i64 0,.bool false]):=⟨by kernel_rfl,by kernel_rfl⟩
instance:qug Try.prog 58 2 57 2:=⟨Try.underlying58,by kernel_rfl⟩
instance:qb6 Try.prog 59 true 2:=⟨⟨_,Try.underlying59,rfl⟩,by kernel_rfl⟩
instance:qbb Try.prog 59 (.agg #[.int .u64 0,.int .u64 0]):=⟨by kernel_rfl,by kernel_rfl⟩
instance:qug Try.prog 59 2 44 1:=⟨Try.underlying59,by kernel_rfl⟩
instance:qb6 Try.prog 64 true 2:=⟨⟨_,Try.underlying64,rfl⟩,by kernel_rfl⟩
instance:qbb Try.prog 64 (.agg #[.int .u8 0,.int .u8 0]):=⟨by kernel_rfl,by kernel_rfl⟩
instance:qug Try.prog 64 2 5 1:=⟨Try.underlying64,by kernel_rfl⟩
instance:qb6 Try.prog 67 false 1:=⟨⟨_,Try.underlying67,rfl⟩,by kernel_rfl⟩
instance:qbb Try.prog 67 (.slice none 0 0):=⟨by kernel_rfl,by kernel_rfl⟩
instance:qb2 Try.prog 67 25 1 24:=⟨Try.underlying67,by kernel_rfl⟩
instance:qb6 Try.prog 69 false 1:=⟨⟨_,Try.underlying69,rfl⟩,by kernel_rfl⟩
instance:qbb Try.prog 69 (.slice none 0 0):=⟨by kernel_rfl,by kernel_rfl⟩
instance:qb2 Try.prog 69 4 1 1:=⟨Try.underlying69,by kernel_rfl⟩
instance:qb6 Try.prog 82 false 1:=⟨⟨_,Try.underlying82,rfl⟩,by kernel_rfl⟩
instance:qbb Try.prog 82 (.nilFunc):=⟨by kernel_rfl,by kernel_rfl⟩
instance:qb6 Try.prog 91 false 1:=⟨⟨_,Try.underlying91,rfl⟩,by kernel_rfl⟩
instance:qdx Try.prog 91 (.map 3 3):=⟨Try.underlying91⟩
instance:qbb Try.prog 91 (.map none):=⟨by kernel_rfl,by kernel_rfl⟩
instance:qb6 Try.prog 105 false 1:=⟨⟨_,Try.underlying105,rfl⟩,by kernel_rfl⟩
instance:qbb Try.prog 105 (.pointer none):=⟨by kernel_rfl,by kernel_rfl⟩
instance:qb6 Try.prog 107 true 8:=⟨⟨_,Try.underlying107,rfl⟩,by kernel_rfl⟩
instance:qbb Try.prog 107 (.agg #[.string ByteArray.empty,.slice none 0 0,.slice none 0 0,.slice none 0 0,.slice none 0 0,.slice none 0 0,.slice none 0 0,.slice none 0 0]):=⟨by kernel_rfl,by kernel_rfl⟩
instance:qb6 Try.prog 113 false 1:=⟨⟨_,Try.underlying113,rfl⟩,by kernel_rfl⟩
instance:qbb Try.prog 113 (.slice none 0 0):=⟨by kernel_rfl,by kernel_rfl⟩
instance:qb2 Try.prog 113 9 1 16:=⟨Try.underlying113,by kernel_rfl⟩
instance:qb6 Try.prog 117 false 1:=⟨⟨_,Try.underlying117,rfl⟩,by kernel_rfl⟩
instance:qbb Try.prog 117 (.nilFunc):=⟨by kernel_rfl,by kernel_rfl⟩
instance:qb6 Try.prog 119 false 1:=⟨⟨_,Try.underlying119,rfl⟩,by kernel_rfl⟩
instance:qbb Try.prog 119 (.nilFunc):=⟨by kernel_rfl,by kernel_rfl⟩
instance:qb6 Try.prog 120 false 1:=⟨⟨_,Try.underlying120,rfl⟩,by kernel_rfl⟩
instance:qbb Try.prog 120 (.nilFunc):=⟨by kernel_rfl,by kernel_rfl⟩
instance:qb6 Try.prog 133 false 1:=⟨⟨_,Try.underlying133,rfl⟩,by kernel_rfl⟩
instance:qbb Try.prog 133 (.slice none 0 0):=⟨by kernel_rfl,by kernel_rfl⟩
instance:qb2 Try.prog 133 5 1 1:=⟨Try.underlying133,by kernel_rfl⟩
instance:qb6 Try.prog 134 false 1:=⟨⟨_,Try.underlying134,rfl⟩,by kernel_rfl⟩
instance:qdx Try.prog 134 (.map 9 4):=⟨Try.underlying134⟩
instance:qbb Try.prog 134 (.map none):=⟨by kernel_rfl,by kernel_rfl⟩
instance:qb6 Try.prog 137 false 1:=⟨⟨_,Try.underlying137,rfl⟩,by kernel_rfl⟩
instance:qbb Try.prog 137 (.nilFunc):=⟨by kernel_rfl,by kernel_rfl⟩
instance:qb6 Try.prog 142 false 1:=⟨⟨_,Try.underlying142,rfl⟩,by kernel_rfl⟩
instance:qdx Try.prog 142 (.int .u64):=⟨Try.underlying142⟩
instance:qbb Try.prog 142 (.int .u64 0):=⟨by kernel_rfl,by kernel_rfl⟩
instance:qb6 Try.prog 144 true 3:=⟨⟨_,Try.underlying144,rfl⟩,by kernel_rfl⟩
instance:qbb Try.prog 144 (.agg #[.int .i64 0,.int .i64 0,.int .i64 0]):=⟨by kernel_rfl,by kernel_rfl⟩
instance:qug Try.prog 144 3 3 1:=⟨Try.underlying144,by kernel_rfl⟩
instance:qb6 Try.prog 148 false 1:=⟨⟨_,Try.underlying148,rfl⟩,by kernel_rfl⟩
instance:qdx Try.prog 148 (.int .i64):=⟨Try.underlying148⟩
instance:qbb Try.prog 148 (.int .i64 0):=⟨by kernel_rfl,by kernel_rfl⟩
instance:qb6 Try.prog 155 false 1:=⟨⟨_,Try.underlying155,rfl⟩,by kernel_rfl⟩
instance:qdx Try.prog 155 (.int .u32):=⟨Try.underlying155⟩
instance:qbb Try.prog 155 (.int .u32 0):=⟨by kernel_rfl,by kernel_rfl⟩
instance:qb6 Try.prog 157 false 1:=⟨⟨_,Try.underlying157,rfl⟩,by kernel_rfl⟩
instance:qdx Try.prog 157 (.int .u64):=⟨Try.underlying157⟩
instance:qbb Try.prog 157 (.int .u64 0):=⟨by kernel_rfl,by kernel_rfl⟩
instance:qb6 Try.prog 161 false 1:=⟨⟨_,Try.underlying161,rfl⟩,by kernel_rfl⟩
instance:qbb Try.prog 161 (.pointer none):=⟨by kernel_rfl,by kernel_rfl⟩
instance:qan Try.prog 30 0 0 false 1:=⟨⟨_,_,Try.underlying30,rfl,rfl,(inferInstance:qb6 Try.prog 9 false 1)⟩,by decide⟩
instance:qan Try.prog 30 1 1 false 1:=⟨⟨_,_,Try.underlying30,rfl,rfl,(inferInstance:qb6 Try.prog 25 false 1)⟩,by decide⟩
instance:qan Try.prog 30 2 2 false 1:=⟨⟨_,_,Try.underlying30,rfl,rfl,(inferInstance:qb6 Try.prog 26 false 1)⟩,by decide⟩
instance:qan Try.prog 30 3 3 false 1:=⟨⟨_,_,Try.underlying30,rfl,rfl,(inferInstance:qb6 Try.prog 27 false 1)⟩,by decide⟩
instance:qan Try.prog 30 4 4 false 1:=⟨⟨_,_,Try.underlying30,rfl,rfl,(inferInstance:qb6 Try.prog 25 false 1)⟩,by decide⟩
instance:qan Try.prog 30 5 5 false 1:=⟨⟨_,_,Try.underlying30,rfl,rfl,(inferInstance:qb6 Try.prog 28 false 1)⟩,by decide⟩
instance:qan Try.prog 39 0 0 false 1:=⟨⟨_,_,Try.underlying39,rfl,rfl,(inferInstance:qb6 Try.prog 3 false 1)⟩,by decide⟩
instance:qan Try.prog 39 1 1 false 1:=⟨⟨_,_,Try.underlying39,rfl,rfl,(inferInstance:qb6 Try.prog 3 false 1)⟩,by decide⟩
instance:qan Try.prog 39 2 2 false 1:=⟨⟨_,_,Try.underlying39,rfl,rfl,(inferInstance:qb6 Try.prog 37 false 1)⟩,by decide⟩
instance:qan Try.prog 39 3 3 false 1:=⟨⟨_,_,Try.underlying39,rfl,rfl,(inferInstance:qb6 Try.prog 25 false 1)⟩,by decide⟩
instance:qan Try.prog 41 0 0 false 1:=⟨⟨_,_,Try.underlying41,rfl,rfl,(inferInstance:qb6 Try.prog 25 false 1)⟩,by decide⟩
instance:qan Try.prog 41 1 1 false 1:=⟨⟨_,_,Try.underlying41,rfl,rfl,(inferInstance:qb6 Try.prog 36 false 1)⟩,by decide⟩
instance:qan Try.prog 41 2 2 true 4:=⟨⟨_,_,Try.underlying41,rfl,rfl,(inferInstance:qb6 Try.prog 39 true 4)⟩,by decide⟩
instance:qan Try.prog 41 3 6 false 1:=⟨⟨_,_,Try.underlying41,rfl,rfl,(inferInstance:qb6 Try.prog 3 false 1)⟩,by decide⟩
instance:qan Try.prog 41 4 7 false 1:=⟨⟨_,_,Try.underlying41,rfl,rfl,(inferInstance:qb6 Try.prog 3 false 1)⟩,by decide⟩
instance:qan Try.prog 41 5 8 false 1:=⟨⟨_,_,Try.underlying41,rfl,rfl,(inferInstance:qb6 Try.prog 3 false 1)⟩,by decide⟩
instance:qan Try.prog 46 0 0 false 1:=⟨⟨_,_,Try.underlying46,rfl,rfl,(inferInstance:qb6 Try.prog 3 false 1)⟩,by decide⟩
instance:qan Try.prog 46 1 1 false 1:=⟨⟨_,_,Try.underlying46,rfl,rfl,(inferInstance:qb6 Try.prog 3 false 1)⟩,by decide⟩
instance:qan Try.prog 46 2 2 false 1:=⟨⟨_,_,Try.underlying46,rfl,rfl,(inferInstance:qb6 Try.prog 25 false 1)⟩,by decide⟩
instance:qan Try.prog 46 3 3 false 1:=⟨⟨_,_,Try.underlying46,rfl,rfl,(inferInstance:qb6 Try.prog 44 false 1)⟩,by decide⟩
instance:qan Try.prog 46 4 4 false 1:=⟨⟨_,_,Try.underlying46,rfl,rfl,(inferInstance:qb6 Try.prog 3 false 1)⟩,by decide⟩
instance:qan Try.prog 51 0 0 false 1:=⟨⟨_,_,Try.underlying51,rfl,rfl,(inferInstance:qb6 Try.prog 3 false 1)⟩,by decide⟩
instance:qan Try.prog 51 1 1 false 1:=⟨⟨_,_,Try.underlying51,rfl,rfl,(inferInstance:qb6 Try.prog 25 false 1)⟩,by decide⟩
instance:qan Try.prog 53 0 0 false 1:=⟨⟨_,_,Try.underlying53,rfl,rfl,(inferInstance:qb6 Try.prog 9 false 1)⟩,by decide⟩
instance:qan Try.prog 53 1 1 false 1:=⟨⟨_,_,Try.underlying53,rfl,rfl,(inferInstance:qb6 Try.prog 3 false 1)⟩,by decide⟩
instance:qan Try.prog 53 2 2 false 1:=⟨⟨_,_,Try.underlying53,rfl,rfl,(inferInstance:qb6 Try.prog 3 false 1)⟩,by decide⟩
instance:qan Try.prog 53 3 3 false 1:=⟨⟨_,_,Try.underlying53,rfl,rfl,(inferInstance:qb6 Try.prog 3 false 1)⟩,by decide⟩
instance:qan Try.prog 53 4 4 false 1:=⟨⟨_,_,Try.underlying53,rfl,rfl,(inferInstance:qb6 Try.prog 3 false 1)⟩,by decide⟩
instance:qan Try.prog 55 0 0 false 1:=⟨⟨_,_,Try.underlying55,rfl,rfl,(inferInstance:qb6 Try.prog 9 false 1)⟩,by decide⟩
instance:qan Try.prog 55 1 1 false 1:=⟨⟨_,_,Try.underlying55,rfl,rfl,(inferInstance:qb6 Try.prog 3 false 1)⟩,by decide⟩
instance:qan Try.prog 55 2 2 false 1:=⟨⟨_,_,Try.underlying55,rfl,rfl,(inferInstance:qb6 Try.prog 4 false 1)⟩,by decide⟩
instance:qan Try.prog 57 0 0 false 1:=⟨⟨_,_,Try.underlying57,rfl,rfl,(inferInstance:qb6 Try.prog 3 false 1)⟩,by decide⟩
instance:qan Try.prog 57 1 1 false 1:=⟨⟨_,_,Try.underlying57,rfl,rfl,(inferInstance:qb6 Try.prog 4 false 1)⟩,by decide⟩
instance:qan Try.prog 107 0 0 true 6:=⟨⟨_,_,Try.underlying107,rfl,rfl,(inferInstance:qb6 Try.prog 30 true 6)⟩,by decide⟩
instance:qan Try.prog 107 1 6 false 1:=⟨⟨_,_,Try.underlying107,rfl,rfl,(inferInstance:qb6 Try.prog 69 false 1)⟩,by decide⟩
instance:qan Try.prog 107 2 7 false 1:=⟨⟨_,_,Try.underlying107,rfl,rfl,(inferInstance:qb6 Try.prog 25 false 1)⟩,by decide⟩
instance:qd0 Try.prog 7:=⟨Try.f7,Try.func7,by kernel_rfl,by kernel_rfl⟩
instance:qd0 Try.prog 12:=⟨Try.f12,Try.func12,by kernel_rfl,by kernel_rfl⟩
instance:qd0 Try.prog 13:=⟨Try.f13,Try.func13,by kernel_rfl,by kernel_rfl⟩
instance:qd0 Try.prog 14:=⟨Try.f14,Try.func14,by kernel_rfl,by kernel_rfl⟩
instance:qd0 Try.prog 15:=⟨Try.f15,Try.func15,by kernel_rfl,by kernel_rfl⟩
instance:qd0 Try.prog 17:=⟨Try.f17,Try.func17,by kernel_rfl,by kernel_rfl⟩
instance:qd0 Try.prog 18:=⟨Try.f18,Try.func18,by kernel_rfl,by kernel_rfl⟩
instance:qd0 Try.prog 24:=⟨Try.f24,Try.func24,by kernel_rfl,by kernel_rfl⟩
instance:qd0 Try.prog 25:=⟨Try.f25,Try.func25,by kernel_rfl,by kernel_rfl⟩
instance:qd0 Try.prog 26:=⟨Try.f26,Try.func26,by kernel_rfl,by kernel_rfl⟩
instance:qd0 Try.prog 27:=⟨Try.f27,Try.func27,by kernel_rfl,by kernel_rfl⟩
instance:qd0 Try.prog 39:=⟨Try.f39,Try.func39,by kernel_rfl,by kernel_rfl⟩
instance:qd0 Try.prog 41:=⟨Try.f41,Try.func41,by kernel_rfl,by kernel_rfl⟩
instance:qd0 Try.prog 42:=⟨Try.f42,Try.func42,by kernel_rfl,by kernel_rfl⟩
instance:qd0 Try.prog 43:=⟨Try.f43,Try.func43,by kernel_rfl,by kernel_rfl⟩
instance:qd0 Try.prog 44:=⟨Try.f44,Try.func44,by kernel_rfl,by kernel_rfl⟩
instance:qd0 Try.prog 45:=⟨Try.f45,Try.func45,by kernel_rfl,by kernel_rfl⟩
instance:qd0 Try.prog 46:=⟨Try.f46,Try.func46,by kernel_rfl,by kernel_rfl⟩
instance:qd0 Try.prog 47:=⟨Try.f47,Try.func47,by kernel_rfl,by kernel_rfl⟩
instance:qd0 Try.prog 48:=⟨Try.f48,Try.func48,by kernel_rfl,by kernel_rfl⟩
instance:qd0 Try.prog 49:=⟨Try.f49,Try.func49,by kernel_rfl,by kernel_rfl⟩
instance:qd0 Try.prog 50:=⟨Try.f50,Try.func50,by kernel_rfl,by kernel_rfl⟩
instance:qd0 Try.prog 51:=⟨Try.f51,Try.func51,by kernel_rfl,by kernel_rfl⟩
instance:qd0 Try.prog 59:=⟨Try.f59,Try.func59,by kernel_rfl,by kernel_rfl⟩
instance:qd0 Try.prog 60:=⟨Try.f60,Try.func60,by kernel_rfl,by kernel_rfl⟩
instance:qd0 Try.prog 61:=⟨Try.f61,Try.func61,by kernel_rfl,by kernel_rfl⟩
instance:qd0 Try.prog 62:=⟨Try.f62,Try.func62,by kernel_rfl,by kernel_rfl⟩
instance:qd0 Try.prog 63:=⟨Try.f63,Try.func63,by kernel_rfl,by kernel_rfl⟩
instance:qd0 Try.prog 64:=⟨Try.f64,Try.func64,by kernel_rfl,by kernel_rfl⟩
instance:qd0 Try.prog 65:=⟨Try.f65,Try.func65,by kernel_rfl,by kernel_rfl⟩
instance:qd0 Try.prog 66:=⟨Try.f66,Try.func66,by kernel_rfl,by kernel_rfl⟩
instance:qd0 Try.prog 67:=⟨Try.f67,Try.func67,by kernel_rfl,by kernel_rfl⟩
instance:qd0 Try.prog 68:=⟨Try.f68,Try.func68,by kernel_rfl,by kernel_rfl⟩
instance:qd0 Try.prog 69:=⟨Try.f69,Try.func69,by kernel_rfl,by kernel_rfl⟩
instance:qd0 Try.prog 70:=⟨Try.f70,Try.func70,by kernel_rfl,by kernel_rfl⟩
instance:qd0 Try.prog 76:=⟨Try.f76,Try.func76,by kernel_rfl,by kernel_rfl⟩
instance:qd0 Try.prog 78:=⟨Try.f78,Try.func78,by kernel_rfl,by kernel_rfl⟩
instance:qd0 Try.prog 79:=⟨Try.f79,Try.func79,by kernel_rfl,by kernel_rfl⟩
instance:qd0 Try.prog 90:=⟨Try.f90,Try.func90,by kernel_rfl,by kernel_rfl⟩
instance:qd0 Try.prog 91:=⟨Try.f91,Try.func91,by kernel_rfl,by kernel_rfl⟩
instance:qd0 Try.prog 92:=⟨Try.f92,Try.func92,by kernel_rfl,by kernel_rfl⟩
instance:qd0 Try.prog 93:=⟨Try.f93,Try.func93,by kernel_rfl,by kernel_rfl⟩
instance:qd0 Try.prog 94:=⟨Try.f94,Try.func94,by kernel_rfl,by kernel_rfl⟩
instance:qd0 Try.prog 95:=⟨Try.f95,Try.func95,by kernel_rfl,by kernel_rfl⟩
instance:qd0 Try.prog 100:=⟨Try.f100,Try.func100,by kernel_rfl,by kernel_rfl⟩
instance:qd0 Try.prog 101:=⟨Try.f101,Try.func101,by kernel_rfl,by kernel_rfl⟩
end Go.Abs
namespace Go.Abs
open Go Go.Proofs
theorem opI:qbi Try.prog 3 1 (fun a _=>.int .i64 a) I64:=.i64 Try.underlying3 (by kernel_rfl)
theorem opB:qbi Try.prog 4 1 (fun a _=>.bool a) (fun _=>True):=.bool Try.underlying4 (by kernel_rfl)
theorem opU:qbi Try.prog 44 1 (fun a _=>.int .u64 a) U64:=.u64 Try.underlying44 (by kernel_rfl)
theorem opS:qbi Try.prog 9 1 (fun a _=>.str a) zc7:=.str Try.underlying9 (by kernel_rfl)
theorem q92:qbi Try.prog 25 1 (fun l _=>ints l) (All 8 I64):=.slice (by_:=8) 0 opI Try.underlying25 (by kernel_rfl) (by kernel_rfl) (by decide) (by decide)
theorem zeq:qbi Try.prog 53 5 Arr.e Arr.ok:=⟨by kernel_rfl,fun H enc w spare fuel cs x hx hw=>by
 obtain⟨a0,k0,r0⟩:=qbi.fld Try.underlying53 (i:=0) (off:=0) rfl rfl opS hx hw;obtain⟨a1,k1,r1⟩:=qbi.fld Try.underlying53 (i:=1) (off:=1) rfl rfl opI hx hw;obtain⟨a2,k2,r2⟩:=qbi.fld Try.underlying53 (i:=2) (off:=2) rfl rfl opI hx hw;obtain⟨a3,k3,r3⟩:=qbi.fld Try.underlying53 (i:=3) (off:=3) rfl rfl opI hx hw;obtain⟨a4,k4,r4⟩:=qbi.fld Try.underlying53 (i:=4) (off:=4) rfl rfl opI hx hw;refine⟨⟨a0,a1,a2,a3,a4⟩,⟨k0,k1,k2,k3,k4⟩,(qbi.len Try.underlying53 hx).trans (by kernel_rfl),fun j hj=>?_⟩
 match j,hj with
 |0,_=>exact r0 0 (by decide)
 |1,_=>exact r1 0 (by decide)
 |2,_=>exact r2 0 (by decide)
 |3,_=>exact r3 0 (by decide)
 |4,_=>exact r4 0 (by decide)
 | n+5,h=>exact absurd h (by omega)⟩
theorem zb0:qbi Try.prog 26 1 (fun l _=>rows 5 Arr.z Arr.e l) (All 48 Arr.ok):=.slice (by_:=48) Arr.z zeq Try.underlying26 (by kernel_rfl) (by kernel_rfl) (by decide) (by decide)
theorem zbx:qbi Try.prog 55 3 qbp.e qbp.ok:=⟨by kernel_rfl,fun H enc w spare fuel cs x hx hw=>by
 obtain⟨a0,k0,r0⟩:=qbi.fld Try.underlying55 (i:=0) (off:=0) rfl rfl opS hx hw;obtain⟨a1,k1,r1⟩:=qbi.fld Try.underlying55 (i:=1) (off:=1) rfl rfl opI hx hw;obtain⟨a2,k2,r2⟩:=qbi.fld Try.underlying55 (i:=2) (off:=2) rfl rfl opB hx hw;refine⟨⟨a0,a1,a2⟩,⟨k0,k1,k2⟩,(qbi.len Try.underlying55 hx).trans (by kernel_rfl),fun j hj=>?_⟩
 match j,hj with
 |0,_=>exact r0 0 (by decide)
 |1,_=>exact r1 0 (by decide)
 |2,_=>exact r2 0 (by decide)
 | n+3,h=>exact absurd h (by omega)⟩
theorem q78:qbi Try.prog 27 1 (fun l _=>rows 3 qbp.z qbp.e l) (All 32 qbp.ok):=.slice (by_:=32) qbp.z zbx Try.underlying27 (by kernel_rfl) (by kernel_rfl) (by decide) (by decide)
theorem zby:qbi Try.prog 46 5 qau.e qau.ok:=⟨by kernel_rfl,fun H enc w spare fuel cs x hx hw=>by
 obtain⟨a0,k0,r0⟩:=qbi.fld Try.underlying46 (i:=0) (off:=0) rfl rfl opI hx hw;obtain⟨a1,k1,r1⟩:=qbi.fld Try.underlying46 (i:=1) (off:=1) rfl rfl opI hx hw;obtain⟨a2,k2,r2⟩:=qbi.fld Try.underlying46 (i:=2) (off:=2) rfl rfl q92 hx hw;obtain⟨a3,k3,r3⟩:=qbi.fld Try.underlying46 (i:=3) (off:=3) rfl rfl opU hx hw;obtain⟨a4,k4,r4⟩:=qbi.fld Try.underlying46 (i:=4) (off:=4) rfl rfl opI hx hw;refine⟨⟨a0,a1,a2,a3,a4⟩,⟨k0,k1,k2,k3,k4⟩,(qbi.len Try.underlying46 hx).trans (by kernel_rfl),fun j hj=>?_⟩
 match j,hj with
 |0,_=>exact r0 0 (by decide)
 |1,_=>exact r1 0 (by decide)
 |2,_=>exact r2 0 (by decide)
 |3,_=>exact r3 0 (by decide)
 |4,_=>exact r4 0 (by decide)
 | n+5,h=>exact absurd h (by omega)⟩
theorem q79:qbi Try.prog 36 1 (fun l _=>rows 5 qau.z qau.e l) (All 56 qau.ok):=.slice (by_:=56) qau.z zby Try.underlying36 (by kernel_rfl) (by kernel_rfl) (by decide) (by decide)
theorem zbz:qbi Try.prog 51 2 Edge.e Edge.ok:=⟨by kernel_rfl,fun H enc w spare fuel cs x hx hw=>by
 obtain⟨a0,k0,r0⟩:=qbi.fld Try.underlying51 (i:=0) (off:=0) rfl rfl opI hx hw;obtain⟨a1,k1,r1⟩:=qbi.fld Try.underlying51 (i:=1) (off:=1) rfl rfl q92 hx hw;refine⟨⟨a0,a1⟩,⟨k0,k1⟩,(qbi.len Try.underlying51 hx).trans (by kernel_rfl),fun j hj=>?_⟩
 match j,hj with
 |0,_=>exact r0 0 (by decide)
 |1,_=>exact r1 0 (by decide)
 | n+2,h=>exact absurd h (by omega)⟩
theorem q8a:qbi Try.prog 37 1 (fun l _=>rows 2 Edge.z Edge.e l) (All 32 Edge.ok):=.slice (by_:=32) Edge.z zbz Try.underlying37 (by kernel_rfl) (by kernel_rfl) (by decide) (by decide)
theorem zbw:qbi Try.prog 39 4 Term.e Term.ok:=⟨by kernel_rfl,fun H enc w spare fuel cs x hx hw=>by
 obtain⟨a0,k0,r0⟩:=qbi.fld Try.underlying39 (i:=0) (off:=0) rfl rfl opI hx hw;obtain⟨a1,k1,r1⟩:=qbi.fld Try.underlying39 (i:=1) (off:=1) rfl rfl opI hx hw;obtain⟨a2,k2,r2⟩:=qbi.fld Try.underlying39 (i:=2) (off:=2) rfl rfl q8a hx hw;obtain⟨a3,k3,r3⟩:=qbi.fld Try.underlying39 (i:=3) (off:=3) rfl rfl q92 hx hw;refine⟨⟨a0,a1,a2,a3⟩,⟨k0,k1,k2,k3⟩,(qbi.len Try.underlying39 hx).trans (by kernel_rfl),fun j hj=>?_⟩
 match j,hj with
 |0,_=>exact r0 0 (by decide)
 |1,_=>exact r1 0 (by decide)
 |2,_=>exact r2 0 (by decide)
 |3,_=>exact r3 0 (by decide)
 | n+4,h=>exact absurd h (by omega)⟩
theorem q8b:qbi Try.prog 41 9 Block.e Block.ok:=⟨by kernel_rfl,fun H enc w spare fuel cs x hx hw=>by
 obtain⟨a0,k0,r0⟩:=qbi.fld Try.underlying41 (i:=0) (off:=0) rfl rfl q92 hx hw;obtain⟨a1,k1,r1⟩:=qbi.fld Try.underlying41 (i:=1) (off:=1) rfl rfl q79 hx hw;obtain⟨a2,k2,r2⟩:=qbi.fld Try.underlying41 (i:=2) (off:=2) rfl rfl zbw hx hw;obtain⟨a3,k3,r3⟩:=qbi.fld Try.underlying41 (i:=3) (off:=6) rfl rfl opI hx hw;obtain⟨a4,k4,r4⟩:=qbi.fld Try.underlying41 (i:=4) (off:=7) rfl rfl opI hx hw;obtain⟨a5,k5,r5⟩:=qbi.fld Try.underlying41 (i:=5) (off:=8) rfl rfl opI hx hw;refine⟨⟨a0,a1,a2,a3,a4,a5⟩,⟨k0,k1,k2,k3,k4,k5⟩,(qbi.len Try.underlying41 hx).trans (by kernel_rfl),fun j hj=>?_⟩
 match j,hj with
 |0,_=>exact r0 0 (by decide)
 |1,_=>exact r1 0 (by decide)
 |2,_=>exact r2 0 (by decide)
 |3,_=>exact r2 1 (by decide)
 |4,_=>exact r2 2 (by decide)
 |5,_=>exact r2 3 (by decide)
 |6,_=>exact r3 0 (by decide)
 |7,_=>exact r4 0 (by decide)
 |8,_=>exact r5 0 (by decide)
 | n+9,h=>exact absurd h (by omega)⟩
theorem q4e:qbi Try.prog 28 1 (fun l _=>rows 9 Block.z Block.e l) (All 136 Block.ok):=.slice (by_:=136) Block.z q8b Try.underlying28 (by kernel_rfl) (by kernel_rfl) (by decide) (by decide)
theorem zgp:qbi Try.prog 30 6 Fn.e Fn.ok:=⟨by kernel_rfl,fun H enc w spare fuel cs x hx hw=>by
 obtain⟨a0,k0,r0⟩:=qbi.fld Try.underlying30 (i:=0) (off:=0) rfl rfl opS hx hw;obtain⟨a1,k1,r1⟩:=qbi.fld Try.underlying30 (i:=1) (off:=1) rfl rfl q92 hx hw;obtain⟨a2,k2,r2⟩:=qbi.fld Try.underlying30 (i:=2) (off:=2) rfl rfl zb0 hx hw;obtain⟨a3,k3,r3⟩:=qbi.fld Try.underlying30 (i:=3) (off:=3) rfl rfl q78 hx hw;obtain⟨a4,k4,r4⟩:=qbi.fld Try.underlying30 (i:=4) (off:=4) rfl rfl q92 hx hw;obtain⟨a5,k5,r5⟩:=qbi.fld Try.underlying30 (i:=5) (off:=5) rfl rfl q4e hx hw;refine⟨⟨a0,a1,a2,a3,a4,a5⟩,⟨k0,k1,k2,k3,k4,k5⟩,(qbi.len Try.underlying30 hx).trans (by kernel_rfl),fun j hj=>?_⟩
 match j,hj with
 |0,_=>exact r0 0 (by decide)
 |1,_=>exact r1 0 (by decide)
 |2,_=>exact r2 0 (by decide)
 |3,_=>exact r3 0 (by decide)
 |4,_=>exact r4 0 (by decide)
 |5,_=>exact r5 0 (by decide)
 | n+6,h=>exact absurd h (by omega)⟩
end Go.Abs
namespace Go.Abs
open Go
variable {P:Program} {Q:Exit->St->Prop} {st:St} {L:List GOp} {d:Option Tmp} {ty:TypeId} {K:St->Prop}
class qui(P:Program):Prop where
 m:P.follows .mixedOrders=true
theorem qro(all:List Oper):∀l:List Oper,qw1 all l=l.map (Oper.gop all)
 |[]=>rfl
 |o::l=>by rw[qoc,qro all l];rfl
theorem q4b(A:Array Oper):q91 A=(List.range A.size).map (qda A):=by
 unfold q91;rw[qro];apply zih
 ·simp
 ·intro i h1 h2;have h1':i<A.size:=by simpa using h1
  simp[qda,Array.getD,h1']
theorem SC.zfe{id:Nat}{A:Array Oper}[m:qui P](hc:chk A (q5i A) [] (List.range A.size)=true)(h:QS P (Q .normal) (q91 A) st):SC P (.region id A true) Q st:=by
 refine SC.draw (J:=fun _=>false) m.m (qe8.quiet (quk.bef A) (List.range A.size) hc ?_);rw[<- q4b];have:∀(L:List GOp) (st:St),QS P (Q .normal) L st->QS P (qe8 P A (fun _=>false) ([]++List.range A.size) Q) L st:=by
  intro L st h
  induction h with
  |nil h=>exact .nil (qe8.done (by simp[q2j]) h)
  |cons u h k ih=>exact .cons u h ih
 exact this _ _ h
theorem St.q94{t:Tmp}{v:V}(h:st.env t=v)(hlt:Nat.blt t st.nt=true):st.put (some t) v=st:=by
 obtain⟨nt,env,heap⟩:=st;simp only[St.put,St.mk.injEq,true_and,and_true];funext x;cases hb:Nat.beq x t with
 |false=>rfl
 |true=>
  obtain rfl:=zg2 hb;have hlt':Nat.blt x nt=true:=hlt;simp only[cond_true,hlt'];exact h.symm
theorem QS.qy5(t:Tmp){b:Bool}(hb:st.env t=.t (.bool b))(hlt:Nat.blt t st.nt=true)(h1:b=true->QS P K L (st.put (some t) (.t (.bool true))))(h2:b=false->QS P K L (st.put (some t) (.t (.bool false)))):QS P K L st:=by
 cases b with
 |true=>have:=h1 rfl;rwa [St.q94 hb hlt]at this
 |false=>have:=h2 rfl;rwa [St.q94 hb hlt]at this
theorem SL.qy5(t:Tmp){b:Bool}(hb:st.env t=.t (.bool b))(hlt:Nat.blt t st.nt=true)(h1:b=true->SL P L Q (st.put (some t) (.t (.bool true))))(h2:b=false->SL P L Q (st.put (some t) (.t (.bool false)))):SL P L Q st:=by
 cases b with
 |true=>have:=h1 rfl;rwa [St.q94 hb hlt]at this
 |false=>have:=h2 rfl;rwa [St.q94 hb hlt]at this
theorem SL.gy{op:Op}{t:Tmp}{want:Bool}(hb:st.env t=.t (.bool want))(hlt:Nat.blt t st.nt=true)(h:SL P (⟨d,op,ty,none⟩::L) Q st):SL P (⟨d,op,ty,some (some t,want)⟩::L) Q st:=
 SL.guard hb hlt (fun _=>h) (fun e=>by cases want<;>cases e)
theorem SL.gn{op:Op}{t:Tmp}{want:Bool}(hb:st.env t=.t (.bool (!want)))(hlt:Nat.blt t st.nt=true)(h:SL P L Q (st.put d .und)):SL P (⟨d,op,ty,some (some t,want)⟩::L) Q st:=
 SL.guard hb hlt (fun e=>by cases want<;>cases e) (fun _=>h)
theorem QS.qq7{g:GOp}{t:Tmp}{w b:Bool}(hg:g.g=some (some t,w))(hb:st.env t=.t (.bool b))(hlt:Nat.blt t st.nt=true)(h1:b=true->QS P K (g::L) (st.put (some t) (.t (.bool true))))(h2:b=false->QS P K (g::L) (st.put (some t) (.t (.bool false)))):QS P K (g::L) st:=
 QS.qy5 t hb hlt h1 h2
theorem SL.qq7{g:GOp}{t:Tmp}{w b:Bool}(hg:g.g=some (some t,w))(hb:st.env t=.t (.bool b))(hlt:Nat.blt t st.nt=true)(h1:b=true->SL P (g::L) Q (st.put (some t) (.t (.bool true))))(h2:b=false->SL P (g::L) Q (st.put (some t) (.t (.bool false)))):SL P (g::L) Q st:=
 SL.qy5 t hb hlt h1 h2
theorem QS.gy{op:Op}{t:Tmp}{want:Bool}(hb:st.env t=.t (.bool want))(hlt:Nat.blt t st.nt=true)(h:QS P K (⟨d,op,ty,none⟩::L) st):QS P K (⟨d,op,ty,some (some t,want)⟩::L) st:=by
 cases h with
 |cons u h k=>exact QS.gq hb hlt h k
def qbe.qka(H:qbe)(id:Nat)(o:qcu):qbe:={ next:=id+1,slot:=fun i=>bif Id.beq i ⟨id,[]⟩then .live o else H.slot i,lo:=H.lo }
theorem SL.qih(id:Nat){e:TypeId}{x:Operand}{s:Nat}{get:Nat->V}(hid:st.heap.next=id)(hx:st.eval x=.agg s get)
  (hk:SL P L Q ((st.on (st.heap.qka id (V.boxed e s get))).put d (.ptr ⟨id,[]⟩ 0 0 0))):SL P (⟨d,.box e x,ty,none⟩::L) Q st:=by
 subst hid;exact SL.zgv hx hk
theorem SL.qj8(id:Nat){e:TypeId}{x:Operand}{u:V}(hid:st.heap.next=id)(hx:st.eval x=u)(hp:u.one=true)
  (hk:SL P L Q ((st.on (st.heap.qka id (V.boxed e 1 (fun _=>u)))).put d (.ptr ⟨id,[]⟩ 0 0 0))):SL P (⟨d,.box e x,ty,none⟩::L) Q st:=by
 subst hid;exact SL.zgw hx hp hk
theorem SL.qfj(id:Nat){e:TypeId}{z:Value}[h:qbb P e z](hid:st.heap.next=id)(hk:SL P L Q ((st.on (st.heap.qka id (V.boxed e z.cells.size (fun j=>V.cell (z.cells.getD j undef))))).put d (.ptr ⟨id,[]⟩ 0 0 0))) :
  SL P (⟨d,.alloc e,ty,none⟩::L) Q st:=by
 subst hid;exact SL.alloc hk
theorem O.q0z{t e:TypeId}{s by_:Nat}[qb2 P t e s by_]{x y:Operand}{n:Nat}{get:Nat->Nat->T}{k:IntKind}{m:Nat}
  (hx:st.eval x=.t (.sl s n get)) (hy:st.eval y=.t (.int k ((m:Nat):Int))) (h1:m<n):QV P ⟨d,.indexAddr t x y,ty,none⟩ (.fp s (get m)) st:=
 O.qvy hx hy (by omega) (by omega)
theorem O.q0y{t e:TypeId}{s by_:Nat}[qb2 P t e s by_]{x y:Operand}{id:Id}{ver rr len:Nat}{o:qcu}{k:IntKind}{m:Nat}
  (hx:st.eval x=.qbq id ver rr len) (ho:st.heap.slot id=.live o) (hv:ver=o.ver) (hs:o.sz=s) (hy:st.eval y=.t (.int k ((m:Nat):Int))) (h1:m<len) :
  QV P ⟨d,.indexAddr t x y,ty,none⟩ (.ptr id ver (m+rr) 0) st:=O.qr5 hx ho hv hs hy (by omega) (by omega)
theorem is.move{x:Operand}(h:SL P (⟨d,.move x,ty,none⟩::L) Q st):SL P (⟨d,.move x,ty,none⟩::L) Q st:=h
theorem iq.move{x:Operand}(h:QS P K (⟨d,.move x,ty,none⟩::L) st):QS P K (⟨d,.move x,ty,none⟩::L) st:=h
theorem is.assign{x:Operand}(h:SL P (⟨d,.assign x,ty,none⟩::L) Q st):SL P (⟨d,.assign x,ty,none⟩::L) Q st:=h
theorem iq.assign{x:Operand}(h:QS P K (⟨d,.assign x,ty,none⟩::L) st):QS P K (⟨d,.assign x,ty,none⟩::L) st:=h
theorem is.load{t:TypeId}{x:Operand}(h:SL P (⟨d,.load t x,ty,none⟩::L) Q st):SL P (⟨d,.load t x,ty,none⟩::L) Q st:=h
theorem iq.load{t:TypeId}{x:Operand}(h:QS P K (⟨d,.load t x,ty,none⟩::L) st):QS P K (⟨d,.load t x,ty,none⟩::L) st:=h
theorem is.fieldAddr{t:TypeId}{x:Operand}{f:Nat}(h:SL P (⟨d,.fieldAddr t x f,ty,none⟩::L) Q st):SL P (⟨d,.fieldAddr t x f,ty,none⟩::L) Q st:=h
theorem iq.fieldAddr{t:TypeId}{x:Operand}{f:Nat}(h:QS P K (⟨d,.fieldAddr t x f,ty,none⟩::L) st):QS P K (⟨d,.fieldAddr t x f,ty,none⟩::L) st:=h
theorem is.len{x:Operand}{t:TypeId}(h:SL P (⟨d,.call { callee:=.builtin .len,args:=#[x],argTypes:=#[t] },ty,none⟩::L) Q st):SL P (⟨d,.call { callee:=.builtin .len,args:=#[x],argTypes:=#[t] },ty,none⟩::L) Q st:=h
theorem iq.len{x:Operand}{t:TypeId}(h:QS P K (⟨d,.call { callee:=.builtin .len,args:=#[x],argTypes:=#[t] },ty,none⟩::L) st):QS P K (⟨d,.call { callee:=.builtin .len,args:=#[x],argTypes:=#[t] },ty,none⟩::L) st:=h
theorem is.unOp{o:UnOp}{t:TypeId}{x:Operand}(h:SL P (⟨d,.unOp o t x,ty,none⟩::L) Q st):SL P (⟨d,.unOp o t x,ty,none⟩::L) Q st:=h
theorem iq.unOp{o:UnOp}{t:TypeId}{x:Operand}(h:QS P K (⟨d,.unOp o t x,ty,none⟩::L) st):QS P K (⟨d,.unOp o t x,ty,none⟩::L) st:=h
theorem is.pick{c x y:Operand}(h:SL P (⟨d,.pick c x y,ty,none⟩::L) Q st):SL P (⟨d,.pick c x y,ty,none⟩::L) Q st:=h
theorem iq.pick{c x y:Operand}(h:QS P K (⟨d,.pick c x y,ty,none⟩::L) st):QS P K (⟨d,.pick c x y,ty,none⟩::L) st:=h
theorem is.extract{x:Operand}{i:Nat}(h:SL P (⟨d,.extract x i,ty,none⟩::L) Q st):SL P (⟨d,.extract x i,ty,none⟩::L) Q st:=h
theorem iq.extract{x:Operand}{i:Nat}(h:QS P K (⟨d,.extract x i,ty,none⟩::L) st):QS P K (⟨d,.extract x i,ty,none⟩::L) st:=h
theorem is.nilCheck{x:Operand}(h:SL P (⟨d,.nilCheck x,ty,none⟩::L) Q st):SL P (⟨d,.nilCheck x,ty,none⟩::L) Q st:=h
theorem iq.nilCheck{x:Operand}(h:QS P K (⟨d,.nilCheck x,ty,none⟩::L) st):QS P K (⟨d,.nilCheck x,ty,none⟩::L) st:=h
theorem is.indexAddr{t:TypeId}{x y:Operand}(h:SL P (⟨d,.indexAddr t x y,ty,none⟩::L) Q st):SL P (⟨d,.indexAddr t x y,ty,none⟩::L) Q st:=h
theorem iq.indexAddr{t:TypeId}{x y:Operand}(h:QS P K (⟨d,.indexAddr t x y,ty,none⟩::L) st):QS P K (⟨d,.indexAddr t x y,ty,none⟩::L) st:=h
theorem is.index{t:TypeId}{x y:Operand}(h:SL P (⟨d,.index t x y,ty,none⟩::L) Q st):SL P (⟨d,.index t x y,ty,none⟩::L) Q st:=h
theorem iq.index{t:TypeId}{x y:Operand}(h:QS P K (⟨d,.index t x y,ty,none⟩::L) st):QS P K (⟨d,.index t x y,ty,none⟩::L) st:=h
theorem is.convert{s t:TypeId}{x:Operand}(h:SL P (⟨d,.convert s t x,ty,none⟩::L) Q st):SL P (⟨d,.convert s t x,ty,none⟩::L) Q st:=h
theorem iq.convert{s t:TypeId}{x:Operand}(h:QS P K (⟨d,.convert s t x,ty,none⟩::L) st):QS P K (⟨d,.convert s t x,ty,none⟩::L) st:=h
theorem is.q9r{t t2:TypeId}{x y:Operand}(h:SL P (⟨d,.binOp .add t x y t2,ty,none⟩::L) Q st):SL P (⟨d,.binOp .add t x y t2,ty,none⟩::L) Q st:=h
theorem iq.q9r{t t2:TypeId}{x y:Operand}(h:QS P K (⟨d,.binOp .add t x y t2,ty,none⟩::L) st):QS P K (⟨d,.binOp .add t x y t2,ty,none⟩::L) st:=h
theorem is.q9g{t t2:TypeId}{x y:Operand}(h:SL P (⟨d,.binOp .sub t x y t2,ty,none⟩::L) Q st):SL P (⟨d,.binOp .sub t x y t2,ty,none⟩::L) Q st:=h
theorem iq.q9g{t t2:TypeId}{x y:Operand}(h:QS P K (⟨d,.binOp .sub t x y t2,ty,none⟩::L) st):QS P K (⟨d,.binOp .sub t x y t2,ty,none⟩::L) st:=h
theorem is.q9k{t t2:TypeId}{x y:Operand}(h:SL P (⟨d,.binOp .mul t x y t2,ty,none⟩::L) Q st):SL P (⟨d,.binOp .mul t x y t2,ty,none⟩::L) Q st:=h
theorem iq.q9k{t t2:TypeId}{x y:Operand}(h:QS P K (⟨d,.binOp .mul t x y t2,ty,none⟩::L) st):QS P K (⟨d,.binOp .mul t x y t2,ty,none⟩::L) st:=h
theorem is.q9p{t t2:TypeId}{x y:Operand}(h:SL P (⟨d,.binOp .eql t x y t2,ty,none⟩::L) Q st):SL P (⟨d,.binOp .eql t x y t2,ty,none⟩::L) Q st:=h
theorem iq.q9p{t t2:TypeId}{x y:Operand}(h:QS P K (⟨d,.binOp .eql t x y t2,ty,none⟩::L) st):QS P K (⟨d,.binOp .eql t x y t2,ty,none⟩::L) st:=h
theorem is.q9j{t t2:TypeId}{x y:Operand}(h:SL P (⟨d,.binOp .neq t x y t2,ty,none⟩::L) Q st):SL P (⟨d,.binOp .neq t x y t2,ty,none⟩::L) Q st:=h
theorem iq.q9j{t t2:TypeId}{x y:Operand}(h:QS P K (⟨d,.binOp .neq t x y t2,ty,none⟩::L) st):QS P K (⟨d,.binOp .neq t x y t2,ty,none⟩::L) st:=h
theorem is.q9l{t t2:TypeId}{x y:Operand}(h:SL P (⟨d,.binOp .lss t x y t2,ty,none⟩::L) Q st):SL P (⟨d,.binOp .lss t x y t2,ty,none⟩::L) Q st:=h
theorem iq.q9l{t t2:TypeId}{x y:Operand}(h:QS P K (⟨d,.binOp .lss t x y t2,ty,none⟩::L) st):QS P K (⟨d,.binOp .lss t x y t2,ty,none⟩::L) st:=h
theorem is.q9m{t t2:TypeId}{x y:Operand}(h:SL P (⟨d,.binOp .leq t x y t2,ty,none⟩::L) Q st):SL P (⟨d,.binOp .leq t x y t2,ty,none⟩::L) Q st:=h
theorem iq.q9m{t t2:TypeId}{x y:Operand}(h:QS P K (⟨d,.binOp .leq t x y t2,ty,none⟩::L) st):QS P K (⟨d,.binOp .leq t x y t2,ty,none⟩::L) st:=h
theorem is.q9n{t t2:TypeId}{x y:Operand}(h:SL P (⟨d,.binOp .gtr t x y t2,ty,none⟩::L) Q st):SL P (⟨d,.binOp .gtr t x y t2,ty,none⟩::L) Q st:=h
theorem iq.q9n{t t2:TypeId}{x y:Operand}(h:QS P K (⟨d,.binOp .gtr t x y t2,ty,none⟩::L) st):QS P K (⟨d,.binOp .gtr t x y t2,ty,none⟩::L) st:=h
theorem is.q9o{t t2:TypeId}{x y:Operand}(h:SL P (⟨d,.binOp .geq t x y t2,ty,none⟩::L) Q st):SL P (⟨d,.binOp .geq t x y t2,ty,none⟩::L) Q st:=h
theorem iq.q9o{t t2:TypeId}{x y:Operand}(h:QS P K (⟨d,.binOp .geq t x y t2,ty,none⟩::L) st):QS P K (⟨d,.binOp .geq t x y t2,ty,none⟩::L) st:=h
theorem is.q9q{t t2:TypeId}{x y:Operand}(h:SL P (⟨d,.binOp .and t x y t2,ty,none⟩::L) Q st):SL P (⟨d,.binOp .and t x y t2,ty,none⟩::L) Q st:=h
theorem iq.q9q{t t2:TypeId}{x y:Operand}(h:QS P K (⟨d,.binOp .and t x y t2,ty,none⟩::L) st):QS P K (⟨d,.binOp .and t x y t2,ty,none⟩::L) st:=h
theorem is.zfk{t t2:TypeId}{x y:Operand}(h:SL P (⟨d,.binOp .or t x y t2,ty,none⟩::L) Q st):SL P (⟨d,.binOp .or t x y t2,ty,none⟩::L) Q st:=h
theorem iq.zfk{t t2:TypeId}{x y:Operand}(h:QS P K (⟨d,.binOp .or t x y t2,ty,none⟩::L) st):QS P K (⟨d,.binOp .or t x y t2,ty,none⟩::L) st:=h
theorem is.q9f{t t2:TypeId}{x y:Operand}(h:SL P (⟨d,.binOp .xor t x y t2,ty,none⟩::L) Q st):SL P (⟨d,.binOp .xor t x y t2,ty,none⟩::L) Q st:=h
theorem iq.q9f{t t2:TypeId}{x y:Operand}(h:QS P K (⟨d,.binOp .xor t x y t2,ty,none⟩::L) st):QS P K (⟨d,.binOp .xor t x y t2,ty,none⟩::L) st:=h
theorem is.qqr{t t2:TypeId}{x y:Operand}(h:SL P (⟨d,.binOp .andNot t x y t2,ty,none⟩::L) Q st):SL P (⟨d,.binOp .andNot t x y t2,ty,none⟩::L) Q st:=h
theorem iq.qqr{t t2:TypeId}{x y:Operand}(h:QS P K (⟨d,.binOp .andNot t x y t2,ty,none⟩::L) st):QS P K (⟨d,.binOp .andNot t x y t2,ty,none⟩::L) st:=h
theorem is.q9i{t t2:TypeId}{x y:Operand}(h:SL P (⟨d,.binOp .shl t x y t2,ty,none⟩::L) Q st):SL P (⟨d,.binOp .shl t x y t2,ty,none⟩::L) Q st:=h
theorem iq.q9i{t t2:TypeId}{x y:Operand}(h:QS P K (⟨d,.binOp .shl t x y t2,ty,none⟩::L) st):QS P K (⟨d,.binOp .shl t x y t2,ty,none⟩::L) st:=h
theorem is.q9h{t t2:TypeId}{x y:Operand}(h:SL P (⟨d,.binOp .shr t x y t2,ty,none⟩::L) Q st):SL P (⟨d,.binOp .shr t x y t2,ty,none⟩::L) Q st:=h
theorem iq.q9h{t t2:TypeId}{x y:Operand}(h:QS P K (⟨d,.binOp .shr t x y t2,ty,none⟩::L) st):QS P K (⟨d,.binOp .shr t x y t2,ty,none⟩::L) st:=h
theorem is.box{e:TypeId}{x:Operand}(h:SL P (⟨d,.box e x,ty,none⟩::L) Q st):SL P (⟨d,.box e x,ty,none⟩::L) Q st:=h
theorem is.alloc{e:TypeId}(h:SL P (⟨d,.alloc e,ty,none⟩::L) Q st):SL P (⟨d,.alloc e,ty,none⟩::L) Q st:=h
theorem is.store{t:TypeId}{x y:Operand}(h:SL P (⟨d,.store t x y,ty,none⟩::L) Q st):SL P (⟨d,.store t x y,ty,none⟩::L) Q st:=h
theorem is.sl{g:GOp}(h:SL P (g::L) Q st):SL P (g::L) Q st:=h
theorem iq.qs{g:GOp}(h:QS P K (g::L) st):QS P K (g::L) st:=h
theorem is.g{op:Op}{t:Tmp}{w:Bool}(h:SL P (⟨d,op,ty,some (some t,w)⟩::L) Q st):SL P (⟨d,op,ty,some (some t,w)⟩::L) Q st:=h
theorem iq.g{op:Op}{t:Tmp}{w:Bool}(h:QS P K (⟨d,op,ty,some (some t,w)⟩::L) st):QS P K (⟨d,op,ty,some (some t,w)⟩::L) st:=h
theorem is.sc{c:Code}(h:SC P c Q st):SC P c Q st:=h
theorem is.cond{c:Operand}{x y:Code}(h:SC P (.cond c x y) Q st):SC P (.cond c x y) Q st:=h
theorem qjn.n{K:St->Prop}(h:K st):qjn K Q .normal st:=h
theorem qjn.r{K:St->Prop}(h:Q .ret st):qjn K Q .ret st:=h
theorem qjn.x{K:St->Prop}{id:Nat}(h:Q (.exit id) st):qjn K Q (.exit id) st:=h
theorem inQ.n{id:Nat}(h:Q .normal st):inQ id Q .normal st:=h
theorem inQ.r{id:Nat}(h:Q .ret st):inQ id Q .ret st:=h
theorem inQ.x{id:Nat}(h:Q .normal st):inQ id Q (.exit id) st:=by simp only[inQ,zhc,cond_true];exact h
theorem inQ.y{id i:Nat}(hn:Nat.beq i id=false)(h:Q (.exit i) st):inQ id Q (.exit i) st:=by simp only[inQ,hn,cond_false];exact h
structure Rest(R:Prop):Prop where
 mk::(out:R)
theorem run{G R:Prop}(k:R) (h:Rest R->G:=by
  intro k
  repeat first
   |refine qjn.n ?_
   |refine qjn.r ?_
   |refine qjn.x ?_
   |refine inQ.n ?_
   |refine inQ.r ?_
   |refine inQ.x ?_
   |refine inQ.y rfl ?_
   | (refine is.sc ?_;first
     |refine SC.seq' ?_
     |refine SC.region ?_
     | (refine is.cond ?_;first
       |refine SC.cond_true rfl ?_
       | refine SC.cond_false rfl ?_)
     |refine SC.block ?_
     |refine SC.skip ?_
     |refine SC.exit ?_
     |refine SC.ret ?_
     | refine SC.zfe (by decide +kernel) ?_)
   |refine SL.nil ?_
   |refine QS.nil ?_
   | (refine is.sl ?_;first
     | (refine is.g ?_;first
       |refine SL.gy rfl rfl ?_
       | refine SL.gn rfl rfl ?_)
     |(refine is.move ?_;refine SL.o O.move ?_)
     |(refine is.assign ?_;refine SL.o O.assign ?_)
     | (refine is.load ?_;first
       |refine SL.o (O.q8s rfl rfl) ?_
       |refine SL.o (O.q0j rfl rfl) ?_
       |refine SL.o (O.q4s rfl rfl rfl (by first|exact zg4 rfl|(dsimp only;omega)) (by first|exact zg4 rfl|(dsimp only;omega))) ?_
       | refine SL.o (O.qrx rfl rfl rfl (by first|exact zg4 rfl|(dsimp only;omega)) (by first|exact zg4 rfl|(dsimp only;omega))) ?_)
     | (refine is.fieldAddr ?_;first
       |refine SL.o (O.q1c rfl) ?_
       | refine SL.o (O.q1b rfl rfl rfl) ?_)
     | (refine is.len ?_;first
       |refine SL.o (O.ze0 rfl) ?_
       |refine SL.o (O.zdj rfl rfl rfl) ?_
       |refine SL.o (O.q0o rfl) ?_
       | refine SL.o (O.zez rfl) ?_)
     | (refine is.unOp ?_;first
       |refine SL.o (O.not rfl) ?_
       | refine SL.o (O.neg rfl (qd2 (by omega) (by omega))) ?_)
     | (refine is.pick ?_;first
       |refine SL.o (O.ql5 rfl) ?_
       | refine SL.o (O.qjv rfl) ?_)
     |(refine is.extract ?_;refine SL.o (O.extract rfl rfl) ?_)
     | (refine is.nilCheck ?_;first
       |refine SL.o (O.qmb rfl rfl rfl) ?_
       | refine SL.o (O.qmc rfl) ?_)
     | (refine is.indexAddr ?_;first
       |refine SL.o (O.q0z rfl rfl (by first|omega|assumption)) ?_
       |refine SL.o (O.qvy rfl rfl (by first|omega|assumption) (by first|omega|assumption)) ?_
       |refine SL.o (O.q0y rfl rfl rfl rfl rfl (by first|omega|assumption)) ?_
       | refine SL.o (O.qr5 rfl rfl rfl rfl rfl (by first|omega|assumption) (by first|omega|assumption)) ?_)
     |(refine is.index ?_;refine SL.o (O.qqa rfl rfl (by omega) (by omega)) ?_)
     |(refine is.convert ?_;refine SL.o (O.qt0 rfl (qd2 (by omega) (by omega))) ?_)
     |(refine is.q9r ?_;refine SL.o (O.add rfl rfl (qd2 (by omega) (by omega))) ?_)
     |(refine is.q9g ?_;refine SL.o (O.sub rfl rfl (qd2 (by omega) (by omega))) ?_)
     |(refine is.q9k ?_;refine SL.o (O.mul rfl rfl (qd2 (by omega) (by omega))) ?_)
     |(refine is.q9p ?_;refine SL.o (O.eql rfl rfl) ?_)
     |(refine is.q9j ?_;refine SL.o (O.neq rfl rfl) ?_)
     |(refine is.q9l ?_;refine SL.o (O.lss rfl rfl) ?_)
     |(refine is.q9m ?_;refine SL.o (O.leq rfl rfl) ?_)
     |(refine is.q9n ?_;refine SL.o (O.gtr rfl rfl) ?_)
     |(refine is.q9o ?_;refine SL.o (O.geq rfl rfl) ?_)
     |(refine is.q9q ?_;refine SL.o (O.bits rfl rfl rfl) ?_)
     |(refine is.zfk ?_;refine SL.o (O.bits rfl rfl rfl) ?_)
     |(refine is.q9f ?_;refine SL.o (O.bits rfl rfl rfl) ?_)
     |(refine is.qqr ?_;refine SL.o (O.bits rfl rfl rfl) ?_)
     |(refine is.q9i ?_;refine SL.o (O.shl rfl rfl (by omega)) ?_)
     |(refine is.q9h ?_;refine SL.o (O.shr rfl rfl (by omega)) ?_)
     | (refine is.box ?_;first
       |refine SL.qih 0 rfl rfl ?_
       |refine SL.qih 1 rfl rfl ?_
       |refine SL.qih 2 rfl rfl ?_
       |refine SL.qih 3 rfl rfl ?_
       |refine SL.qih 4 rfl rfl ?_
       |refine SL.qih 5 rfl rfl ?_
       |refine SL.qih 6 rfl rfl ?_
       |refine SL.qih 7 rfl rfl ?_
       |refine SL.qih 8 rfl rfl ?_
       |refine SL.qih 9 rfl rfl ?_
       |refine SL.qih 10 rfl rfl ?_
       |refine SL.qih 11 rfl rfl ?_
       |refine SL.qj8 0 rfl rfl rfl ?_
       |refine SL.qj8 1 rfl rfl rfl ?_
       |refine SL.qj8 2 rfl rfl rfl ?_
       |refine SL.qj8 3 rfl rfl rfl ?_
       |refine SL.qj8 4 rfl rfl rfl ?_
       |refine SL.qj8 5 rfl rfl rfl ?_
       |refine SL.qj8 6 rfl rfl rfl ?_
       |refine SL.qj8 7 rfl rfl rfl ?_
       |refine SL.qj8 8 rfl rfl rfl ?_
       |refine SL.qj8 9 rfl rfl rfl ?_
       |refine SL.qj8 10 rfl rfl rfl ?_
       | refine SL.qj8 11 rfl rfl rfl ?_)
     | (refine is.alloc ?_;first
       |refine SL.qfj 0 rfl ?_
       |refine SL.qfj 1 rfl ?_
       |refine SL.qfj 2 rfl ?_
       |refine SL.qfj 3 rfl ?_
       |refine SL.qfj 4 rfl ?_
       |refine SL.qfj 5 rfl ?_
       |refine SL.qfj 6 rfl ?_
       |refine SL.qfj 7 rfl ?_
       |refine SL.qfj 8 rfl ?_
       |refine SL.qfj 9 rfl ?_
       |refine SL.qfj 10 rfl ?_
       | refine SL.qfj 11 rfl ?_)
     | (refine is.store ?_;first
       |refine SL.qio rfl rfl rfl (by first|exact zg4 rfl|(dsimp only;omega)) (by first|exact zg4 rfl|(dsimp only;omega)) rfl rfl ?_
       | refine SL.qy3 rfl rfl rfl (by first|exact zg4 rfl|(dsimp only;omega)) (by first|exact zg4 rfl|(dsimp only;omega)) rfl ?_))
   | (refine iq.qs ?_;first
     | (refine iq.g ?_;first
       |refine QS.gy rfl rfl ?_
       | refine QS.gn rfl rfl ?_)
     |(refine iq.move ?_;refine QS.o O.move ?_)
     |(refine iq.assign ?_;refine QS.o O.assign ?_)
     | (refine iq.load ?_;first
       |refine QS.o (O.q8s rfl rfl) ?_
       |refine QS.o (O.q0j rfl rfl) ?_
       |refine QS.o (O.q4s rfl rfl rfl (by first|exact zg4 rfl|(dsimp only;omega)) (by first|exact zg4 rfl|(dsimp only;omega))) ?_
       | refine QS.o (O.qrx rfl rfl rfl (by first|exact zg4 rfl|(dsimp only;omega)) (by first|exact zg4 rfl|(dsimp only;omega))) ?_)
     | (refine iq.fieldAddr ?_;first
       |refine QS.o (O.q1c rfl) ?_
       | refine QS.o (O.q1b rfl rfl rfl) ?_)
     | (refine iq.len ?_;first
       |refine QS.o (O.ze0 rfl) ?_
       |refine QS.o (O.zdj rfl rfl rfl) ?_
       |refine QS.o (O.q0o rfl) ?_
       | refine QS.o (O.zez rfl) ?_)
     | (refine iq.unOp ?_;first
       |refine QS.o (O.not rfl) ?_
       | refine QS.o (O.neg rfl (qd2 (by omega) (by omega))) ?_)
     | (refine iq.pick ?_;first
       |refine QS.o (O.ql5 rfl) ?_
       | refine QS.o (O.qjv rfl) ?_)
     |(refine iq.extract ?_;refine QS.o (O.extract rfl rfl) ?_)
     | (refine iq.nilCheck ?_;first
       |refine QS.o (O.qmb rfl rfl rfl) ?_
       | refine QS.o (O.qmc rfl) ?_)
     | (refine iq.indexAddr ?_;first
       |refine QS.o (O.q0z rfl rfl (by first|omega|assumption)) ?_
       |refine QS.o (O.qvy rfl rfl (by first|omega|assumption) (by first|omega|assumption)) ?_
       |refine QS.o (O.q0y rfl rfl rfl rfl rfl (by first|omega|assumption)) ?_
       | refine QS.o (O.qr5 rfl rfl rfl rfl rfl (by first|omega|assumption) (by first|omega|assumption)) ?_)
     |(refine iq.index ?_;refine QS.o (O.qqa rfl rfl (by omega) (by omega)) ?_)
     |(refine iq.convert ?_;refine QS.o (O.qt0 rfl (qd2 (by omega) (by omega))) ?_)
     |(refine iq.q9r ?_;refine QS.o (O.add rfl rfl (qd2 (by omega) (by omega))) ?_)
     |(refine iq.q9g ?_;refine QS.o (O.sub rfl rfl (qd2 (by omega) (by omega))) ?_)
     |(refine iq.q9k ?_;refine QS.o (O.mul rfl rfl (qd2 (by omega) (by omega))) ?_)
     |(refine iq.q9p ?_;refine QS.o (O.eql rfl rfl) ?_)
     |(refine iq.q9j ?_;refine QS.o (O.neq rfl rfl) ?_)
     |(refine iq.q9l ?_;refine QS.o (O.lss rfl rfl) ?_)
     |(refine iq.q9m ?_;refine QS.o (O.leq rfl rfl) ?_)
     |(refine iq.q9n ?_;refine QS.o (O.gtr rfl rfl) ?_)
     |(refine iq.q9o ?_;refine QS.o (O.geq rfl rfl) ?_)
     |(refine iq.q9q ?_;refine QS.o (O.bits rfl rfl rfl) ?_)
     |(refine iq.zfk ?_;refine QS.o (O.bits rfl rfl rfl) ?_)
     |(refine iq.q9f ?_;refine QS.o (O.bits rfl rfl rfl) ?_)
     |(refine iq.qqr ?_;refine QS.o (O.bits rfl rfl rfl) ?_)
     |(refine iq.q9i ?_;refine QS.o (O.shl rfl rfl (by omega)) ?_)
     | (refine iq.q9h ?_;refine QS.o (O.shr rfl rfl (by omega)) ?_))
  exact k.out):G:=h ⟨k⟩
end Go.Abs
