/-
Texts of the proof, part 6: Te Tx V1 V2 V3 V4 V5 V6 V7 Rc0 V9 W4 Zi0 Zi Zj Rc Ra.
No statement of the program is proved here.
-/
import Derived.Test.YtlcholjffgaemaaM5
set_option linter.unusedVariables false
namespace Go.Abs
open Go Go.Proofs
def qcj(t:TypeId)(N:Ty):Prop:=qj2 N=true/\∀z,(Tys.c Try.prog t).zero=some z->N.sz=z.cells.size/\∀j,j<N.sz->∃u,qam N N.z j=.ev u/\∀len,Wk (V.cell (z.cells.getD j undef)) (toV len u)
theorem zgf:qcj 2 (.int .i64):=⟨rfl,fun z h=>by
 injection h with h;subst h;refine⟨rfl,fun j hj=>?_⟩
 match j,hj with
 |0,_=>exact⟨_,rfl,fun len=>by first|exact Wk.refl _|exact Wk.qby _ _⟩
 | n+1,h=>exact absurd h (by show ¬ n+1<1;omega)⟩
theorem zge:qcj 3 (.int .i64):=⟨rfl,fun z h=>by
 injection h with h;subst h;refine⟨rfl,fun j hj=>?_⟩
 match j,hj with
 |0,_=>exact⟨_,rfl,fun len=>by first|exact Wk.refl _|exact Wk.qby _ _⟩
 | n+1,h=>exact absurd h (by show ¬ n+1<1;omega)⟩
theorem zgd:qcj 4 .bool:=⟨rfl,fun z h=>by
 injection h with h;subst h;refine⟨rfl,fun j hj=>?_⟩
 match j,hj with
 |0,_=>exact⟨_,rfl,fun len=>by first|exact Wk.refl _|exact Wk.qby _ _⟩
 | n+1,h=>exact absurd h (by show ¬ n+1<1;omega)⟩
theorem zgc:qcj 5 (.int .u8):=⟨rfl,fun z h=>by
 injection h with h;subst h;refine⟨rfl,fun j hj=>?_⟩
 match j,hj with
 |0,_=>exact⟨_,rfl,fun len=>by first|exact Wk.refl _|exact Wk.qby _ _⟩
 | n+1,h=>exact absurd h (by show ¬ n+1<1;omega)⟩
theorem zgb:qcj 9 .str:=⟨rfl,fun z h=>by
 injection h with h;subst h;refine⟨rfl,fun j hj=>?_⟩
 match j,hj with
 |0,_=>exact⟨_,rfl,fun len=>by first|exact Wk.refl _|exact Wk.qby _ _⟩
 | n+1,h=>exact absurd h (by show ¬ n+1<1;omega)⟩
theorem zed:qcj 25 (.sl (.int .i64)):=⟨rfl,fun z h=>by
 injection h with h;subst h;refine⟨rfl,fun j hj=>?_⟩
 match j,hj with
 |0,_=>exact⟨_,rfl,fun len=>by first|exact Wk.refl _|exact Wk.qby _ _⟩
 | n+1,h=>exact absurd h (by show ¬ n+1<1;omega)⟩
theorem zec:qcj 26 (.sl (.st 4)):=⟨rfl,fun z h=>by
 injection h with h;subst h;refine⟨rfl,fun j hj=>?_⟩
 match j,hj with
 |0,_=>exact⟨_,rfl,fun len=>by first|exact Wk.refl _|exact Wk.qby _ _⟩
 | n+1,h=>exact absurd h (by show ¬ n+1<1;omega)⟩
theorem zeb:qcj 27 (.sl (.st 5)):=⟨rfl,fun z h=>by
 injection h with h;subst h;refine⟨rfl,fun j hj=>?_⟩
 match j,hj with
 |0,_=>exact⟨_,rfl,fun len=>by first|exact Wk.refl _|exact Wk.qby _ _⟩
 | n+1,h=>exact absurd h (by show ¬ n+1<1;omega)⟩
theorem zea:qcj 28 (.sl (.st 3)):=⟨rfl,fun z h=>by
 injection h with h;subst h;refine⟨rfl,fun j hj=>?_⟩
 match j,hj with
 |0,_=>exact⟨_,rfl,fun len=>by first|exact Wk.refl _|exact Wk.qby _ _⟩
 | n+1,h=>exact absurd h (by show ¬ n+1<1;omega)⟩
theorem zd9:qcj 30 (.st 6):=⟨rfl,fun z h=>by
 injection h with h;subst h;refine⟨rfl,fun j hj=>?_⟩
 match j,hj with
 |0,_|1,_|2,_|3,_|4,_|5,_=>exact⟨_,rfl,fun len=>by first|exact Wk.refl _|exact Wk.qby _ _⟩
 | n+6,h=>exact absurd h (by show ¬ n+6<6;omega)⟩
theorem zd8:qcj 36 (.sl (.st 0)):=⟨rfl,fun z h=>by
 injection h with h;subst h;refine⟨rfl,fun j hj=>?_⟩
 match j,hj with
 |0,_=>exact⟨_,rfl,fun len=>by first|exact Wk.refl _|exact Wk.qby _ _⟩
 | n+1,h=>exact absurd h (by show ¬ n+1<1;omega)⟩
theorem zd7:qcj 37 (.sl (.st 1)):=⟨rfl,fun z h=>by
 injection h with h;subst h;refine⟨rfl,fun j hj=>?_⟩
 match j,hj with
 |0,_=>exact⟨_,rfl,fun len=>by first|exact Wk.refl _|exact Wk.qby _ _⟩
 | n+1,h=>exact absurd h (by show ¬ n+1<1;omega)⟩
theorem zd6:qcj 39 (.st 2):=⟨rfl,fun z h=>by
 injection h with h;subst h;refine⟨rfl,fun j hj=>?_⟩
 match j,hj with
 |0,_|1,_|2,_|3,_=>exact⟨_,rfl,fun len=>by first|exact Wk.refl _|exact Wk.qby _ _⟩
 | n+4,h=>exact absurd h (by show ¬ n+4<4;omega)⟩
theorem zd5:qcj 41 (.st 3):=⟨rfl,fun z h=>by
 injection h with h;subst h;refine⟨rfl,fun j hj=>?_⟩
 match j,hj with
 |0,_|1,_|2,_|3,_|4,_|5,_|6,_|7,_|8,_=>exact⟨_,rfl,fun len=>by first|exact Wk.refl _|exact Wk.qby _ _⟩
 | n+9,h=>exact absurd h (by show ¬ n+9<9;omega)⟩
theorem zd4:qcj 44 (.int .u64):=⟨rfl,fun z h=>by
 injection h with h;subst h;refine⟨rfl,fun j hj=>?_⟩
 match j,hj with
 |0,_=>exact⟨_,rfl,fun len=>by first|exact Wk.refl _|exact Wk.qby _ _⟩
 | n+1,h=>exact absurd h (by show ¬ n+1<1;omega)⟩
theorem zd3:qcj 46 (.st 0):=⟨rfl,fun z h=>by
 injection h with h;subst h;refine⟨rfl,fun j hj=>?_⟩
 match j,hj with
 |0,_|1,_|2,_|3,_|4,_=>exact⟨_,rfl,fun len=>by first|exact Wk.refl _|exact Wk.qby _ _⟩
 | n+5,h=>exact absurd h (by show ¬ n+5<5;omega)⟩
theorem zd2:qcj 51 (.st 1):=⟨rfl,fun z h=>by
 injection h with h;subst h;refine⟨rfl,fun j hj=>?_⟩
 match j,hj with
 |0,_|1,_=>exact⟨_,rfl,fun len=>by first|exact Wk.refl _|exact Wk.qby _ _⟩
 | n+2,h=>exact absurd h (by show ¬ n+2<2;omega)⟩
theorem zd1:qcj 53 (.st 4):=⟨rfl,fun z h=>by
 injection h with h;subst h;refine⟨rfl,fun j hj=>?_⟩
 match j,hj with
 |0,_|1,_|2,_|3,_|4,_=>exact⟨_,rfl,fun len=>by first|exact Wk.refl _|exact Wk.qby _ _⟩
 | n+5,h=>exact absurd h (by show ¬ n+5<5;omega)⟩
theorem zd0:qcj 55 (.st 5):=⟨rfl,fun z h=>by
 injection h with h;subst h;refine⟨rfl,fun j hj=>?_⟩
 match j,hj with
 |0,_|1,_|2,_=>exact⟨_,rfl,fun len=>by first|exact Wk.refl _|exact Wk.qby _ _⟩
 | n+3,h=>exact absurd h (by show ¬ n+3<3;omega)⟩
theorem zdz:qcj 57 (.st 7):=⟨rfl,fun z h=>by
 injection h with h;subst h;refine⟨rfl,fun j hj=>?_⟩
 match j,hj with
 |0,_|1,_=>exact⟨_,rfl,fun len=>by first|exact Wk.refl _|exact Wk.qby _ _⟩
 | n+2,h=>exact absurd h (by show ¬ n+2<2;omega)⟩
theorem zdy:qcj 67 (.sl (.sl (.int .i64))):=⟨rfl,fun z h=>by
 injection h with h;subst h;refine⟨rfl,fun j hj=>?_⟩
 match j,hj with
 |0,_=>exact⟨_,rfl,fun len=>by first|exact Wk.refl _|exact Wk.qby _ _⟩
 | n+1,h=>exact absurd h (by show ¬ n+1<1;omega)⟩
theorem zdx:qcj 69 (.sl .bool):=⟨rfl,fun z h=>by
 injection h with h;subst h;refine⟨rfl,fun j hj=>?_⟩
 match j,hj with
 |0,_=>exact⟨_,rfl,fun len=>by first|exact Wk.refl _|exact Wk.qby _ _⟩
 | n+1,h=>exact absurd h (by show ¬ n+1<1;omega)⟩
theorem zai:qcj 113 (.sl .str):=⟨rfl,fun z h=>by
 injection h with h;subst h;refine⟨rfl,fun j hj=>?_⟩
 match j,hj with
 |0,_=>exact⟨_,rfl,fun len=>by first|exact Wk.refl _|exact Wk.qby _ _⟩
 | n+1,h=>exact absurd h (by show ¬ n+1<1;omega)⟩
theorem zah:qcj 133 (.sl (.int .u8)):=⟨rfl,fun z h=>by
 injection h with h;subst h;refine⟨rfl,fun j hj=>?_⟩
 match j,hj with
 |0,_=>exact⟨_,rfl,fun len=>by first|exact Wk.refl _|exact Wk.qby _ _⟩
 | n+1,h=>exact absurd h (by show ¬ n+1<1;omega)⟩
theorem zag:qcj 142 (.int .u64):=⟨rfl,fun z h=>by
 injection h with h;subst h;refine⟨rfl,fun j hj=>?_⟩
 match j,hj with
 |0,_=>exact⟨_,rfl,fun len=>by first|exact Wk.refl _|exact Wk.qby _ _⟩
 | n+1,h=>exact absurd h (by show ¬ n+1<1;omega)⟩
theorem zaf:qcj 148 (.int .i64):=⟨rfl,fun z h=>by
 injection h with h;subst h;refine⟨rfl,fun j hj=>?_⟩
 match j,hj with
 |0,_=>exact⟨_,rfl,fun len=>by first|exact Wk.refl _|exact Wk.qby _ _⟩
 | n+1,h=>exact absurd h (by show ¬ n+1<1;omega)⟩
theorem zae:qcj 155 (.int .u32):=⟨rfl,fun z h=>by
 injection h with h;subst h;refine⟨rfl,fun j hj=>?_⟩
 match j,hj with
 |0,_=>exact⟨_,rfl,fun len=>by first|exact Wk.refl _|exact Wk.qby _ _⟩
 | n+1,h=>exact absurd h (by show ¬ n+1<1;omega)⟩
theorem zad:qcj 157 (.int .u64):=⟨rfl,fun z h=>by
 injection h with h;subst h;refine⟨rfl,fun j hj=>?_⟩
 match j,hj with
 |0,_=>exact⟨_,rfl,fun len=>by first|exact Wk.refl _|exact Wk.qby _ _⟩
 | n+1,h=>exact absurd h (by show ¬ n+1<1;omega)⟩
def ZOk(t:TypeId)(o:Option Ty):Prop:=∀N,o=some N->qcj t N
theorem qd1{t:TypeId}{b:Bool}{x y:Option Ty}(h1:ZOk t x)(h2:ZOk t y):ZOk t (bif b then x else y):=by cases b<;>assumption
theorem qdy{t n:TypeId}{x:Ty}(h:qcj n x):ZOk t (bif Nat.beq t n then some x else none):=fun N e=>by
 cases hb:Nat.beq t n with
 |true=>rw[hb]at e;obtain rfl:=zg2 hb;cases e;exact h
 |false=>rw[hb]at e;cases e
def zfr(t:TypeId):Option Ty:=(bif Nat.blt t 44 then(bif Nat.blt t 27 then(bif Nat.blt t 5 then(bif Nat.blt t 3 then(bif Nat.beq t 2 then some (.int .i64)else none)else(bif Nat.blt t 4 then(bif Nat.beq t 3 then some (.int .i64)else none)else(bif Nat.beq t 4 then some .bool else none)))else(bif Nat.blt t 25 then(bif Nat.blt t 9 then(bif Nat.beq t 5 then some (.int .u8)else none)else(bif Nat.beq t 9 then some .str else none))else(bif Nat.blt t 26 then(bif Nat.beq t 25 then some (.sl (.int .i64))else none)else(bif Nat.beq t 26 then some (.sl (.st 4))else none))))else(bif Nat.blt t 36 then(bif Nat.blt t 28 then(bif Nat.beq t 27 then some (.sl (.st 5))else none)else(bif Nat.blt t 30 then(bif Nat.beq t 28 then some (.sl (.st 3))else none)else(bif Nat.beq t 30 then some (.st 6)else none)))else(bif Nat.blt t 39 then(bif Nat.blt t 37 then(bif Nat.beq t 36 then some (.sl (.st 0))else none)else(bif Nat.beq t 37 then some (.sl (.st 1))else none))else(bif Nat.blt t 41 then(bif Nat.beq t 39 then some (.st 2)else none)else(bif Nat.beq t 41 then some (.st 3)else none)))))else(bif Nat.blt t 69 then(bif Nat.blt t 53 then(bif Nat.blt t 46 then(bif Nat.beq t 44 then some (.int .u64)else none)else(bif Nat.blt t 51 then(bif Nat.beq t 46 then some (.st 0)else none)else(bif Nat.beq t 51 then some (.st 1)else none)))else(bif Nat.blt t 57 then(bif Nat.blt t 55 then(bif Nat.beq t 53 then some (.st 4)else none)else(bif Nat.beq t 55 then some (.st 5)else none))else(bif Nat.blt t 67 then(bif Nat.beq t 57 then some (.st 7)else none)else(bif Nat.beq t 67 then some (.sl (.sl (.int .i64)))else none))))else(bif Nat.blt t 142 then(bif Nat.blt t 113 then(bif Nat.beq t 69 then some (.sl .bool)else none)else(bif Nat.blt t 133 then(bif Nat.beq t 113 then some (.sl .str)else none)else(bif Nat.beq t 133 then some (.sl (.int .u8))else none)))else(bif Nat.blt t 155 then(bif Nat.blt t 148 then(bif Nat.beq t 142 then some (.int .u64)else none)else(bif Nat.beq t 148 then some (.int .i64)else none))else(bif Nat.blt t 157 then(bif Nat.beq t 155 then some (.int .u32)else none)else(bif Nat.beq t 157 then some (.int .u64)else none))))))
theorem qyf(t:TypeId):ZOk t (zfr t):=(qd1 (qd1 (qd1 (qd1 (qdy zgf) (qd1 (qdy zge) (qdy zgd))) (qd1 (qd1 (qdy zgc) (qdy zgb)) (qd1 (qdy zed) (qdy zec)))) (qd1 (qd1 (qdy zeb) (qd1 (qdy zea) (qdy zd9))) (qd1 (qd1 (qdy zd8) (qdy zd7)) (qd1 (qdy zd6) (qdy zd5))))) (qd1 (qd1 (qd1 (qdy zd4) (qd1 (qdy zd3) (qdy zd2))) (qd1 (qd1 (qdy zd1) (qdy zd0)) (qd1 (qdy zdz) (qdy zdy)))) (qd1 (qd1 (qdy zdx) (qd1 (qdy zai) (qdy zah))) (qd1 (qd1 (qdy zag) (qdy zaf)) (qd1 (qdy zae) (qdy zad))))))
def zee(t:TypeId):Option Ty:=bif Nat.beq t 25 then some (.st 12)else bif Nat.beq t 41 then some (.st 11)else none
theorem q7g(t:TypeId)(N:Ty)(z:Value)(h:zee t=some N)(hz:(Tys.c Try.prog t).zero=some z):N.sz=z.cells.size/\∀j,j<N.sz->(∃u,qam N N.z j=.ev u/\∀len,Wk (V.cell (z.cells.getD j undef)) (toV len u))\/∃t' e',qam N N.z j=.own t' e' []/\V.cell (z.cells.getD j undef)=.qby:=by
 unfold zee at h;cases hb:Nat.beq t 25 with
 |true=>
  rw[hb]at h;obtain rfl:=zg2 hb;injection h with h;subst h;injection hz with hz;subst hz;refine⟨rfl,fun j hj=>?_⟩
  match j,hj with
  |0,_=>exact .inr ⟨3,.int .i64,rfl,rfl⟩
  |n+1,h=>exact absurd h (by show ¬ n+1<1;omega)
 |false=>
 rw[hb]at h;cases hb:Nat.beq t 41 with
 |true=>
  rw[hb]at h;obtain rfl:=zg2 hb;injection h with h;subst h;injection hz with hz;subst hz;refine⟨rfl,fun j hj=>?_⟩
  match j,hj with
  |0,_|1,_|2,_|3,_|4,_|5,_|6,_|7,_|8,_=>exact .inl ⟨_,rfl,fun len=>by first|exact Wk.refl _|exact Wk.qby _ _⟩
  |n+9,h=>exact absurd h (by show ¬ n+9<9;omega)
 |false=>
 rw[hb]at h;cases h
instance:TyE Try.prog:=⟨zfr,fun t N h=>(qyf t N h).1,fun t N z h hz=>(qyf t N h).2 z hz,zee,fun t N z h hz=>q7g t N z h hz⟩
end Go.Abs
namespace Go.Abs
open Go Go.Proofs
def zau:qfp:={ nf:=some 6 }
theorem q29:qfp.Ok Try.prog 30 zau:=⟨(fun m h=>by cases h;exact⟨_,Try.underlying30,rfl,by kernel_rfl⟩),(fun l h=>by cases h),(fun s e N h=>by cases h),(fun m s h=>by cases h),(fun m q h=>by cases h)⟩
def zat:qfp:={ nf:=some 4 }
theorem q28:qfp.Ok Try.prog 39 zat:=⟨(fun m h=>by cases h;exact⟨_,Try.underlying39,rfl,by kernel_rfl⟩),(fun l h=>by cases h),(fun s e N h=>by cases h),(fun m s h=>by cases h),(fun m q h=>by cases h)⟩
def zas:qfp:={ nf:=some 6 }
theorem q26:qfp.Ok Try.prog 41 zas:=⟨(fun m h=>by cases h;exact⟨_,Try.underlying41,rfl,by kernel_rfl⟩),(fun l h=>by cases h),(fun s e N h=>by cases h),(fun m s h=>by cases h),(fun m q h=>by cases h)⟩
def zar:qfp:={ nf:=some 5 }
theorem q25:qfp.Ok Try.prog 46 zar:=⟨(fun m h=>by cases h;exact⟨_,Try.underlying46,rfl,by kernel_rfl⟩),(fun l h=>by cases h),(fun s e N h=>by cases h),(fun m s h=>by cases h),(fun m q h=>by cases h)⟩
def zaq:qfp:={ nf:=some 2 }
theorem q24:qfp.Ok Try.prog 51 zaq:=⟨(fun m h=>by cases h;exact⟨_,Try.underlying51,rfl,by kernel_rfl⟩),(fun l h=>by cases h),(fun s e N h=>by cases h),(fun m s h=>by cases h),(fun m q h=>by cases h)⟩
def zap:qfp:={ nf:=some 5,eq:=some [.string,(.int .i64),(.int .i64),(.int .i64),(.int .i64)] }
theorem q23:qfp.Ok Try.prog 53 zap:=⟨(fun m h=>by cases h;exact⟨_,Try.underlying53,rfl,by kernel_rfl⟩),(fun l h=>by cases h;kernel_rfl),(fun s e N h=>by cases h),(fun m s h=>by cases h),(fun m q h=>by cases h)⟩
def zao:qfp:={ nf:=some 3,eq:=some [.string,(.int .i64),.bool] }
theorem q22:qfp.Ok Try.prog 55 zao:=⟨(fun m h=>by cases h;exact⟨_,Try.underlying55,rfl,by kernel_rfl⟩),(fun l h=>by cases h;kernel_rfl),(fun s e N h=>by cases h),(fun m s h=>by cases h),(fun m q h=>by cases h)⟩
def zan:qfp:={ nf:=some 2,eq:=some [(.int .i64),.bool] }
theorem q21:qfp.Ok Try.prog 57 zan:=⟨(fun m h=>by cases h;exact⟨_,Try.underlying57,rfl,by kernel_rfl⟩),(fun l h=>by cases h;kernel_rfl),(fun s e N h=>by cases h),(fun m s h=>by cases h),(fun m q h=>by cases h)⟩
def zam:qfp:={ ar:=some (2,2) }
theorem q20:qfp.Ok Try.prog 58 zam:=⟨(fun m h=>by cases h),(fun l h=>by cases h),(fun s e N h=>by cases h),(fun m s h=>by cases h;exact⟨_,inferInstance⟩),(fun m q h=>by cases h)⟩
def zal:qfp:={ ar:=some (2,1),ba:=some (2,(.int .u64)) }
theorem q2z:qfp.Ok Try.prog 59 zal:=⟨(fun m h=>by cases h),(fun l h=>by cases h),(fun s e N h=>by cases h),(fun m s h=>by cases h;exact⟨_,inferInstance⟩),(fun m q h=>by cases h;kernel_rfl)⟩
def zak:qfp:={ ar:=some (2,1),ba:=some (2,(.int .u8)) }
theorem q2y:qfp.Ok Try.prog 64 zak:=⟨(fun m h=>by cases h),(fun l h=>by cases h),(fun s e N h=>by cases h),(fun m s h=>by cases h;exact⟨_,inferInstance⟩),(fun m q h=>by cases h;kernel_rfl)⟩
def zaj:qfp:={ mp:=some (false,3,(.int .i64)) }
theorem q2x:qfp.Ok Try.prog 91 zaj:=⟨(fun m h=>by cases h),(fun l h=>by cases h),(fun s e N h=>by cases h;exact⟨⟨_,Try.underlying91,Try.underlying3⟩⟩),(fun m s h=>by cases h),(fun m q h=>by cases h)⟩
def q5u:qfp:={ nf:=some 3 }
theorem qye:qfp.Ok Try.prog 107 q5u:=⟨(fun m h=>by cases h;exact⟨_,Try.underlying107,rfl,by kernel_rfl⟩),(fun l h=>by cases h),(fun s e N h=>by cases h),(fun m s h=>by cases h),(fun m q h=>by cases h)⟩
def q5t:qfp:={ mp:=some (true,4,.bool) }
theorem qyd:qfp.Ok Try.prog 134 q5t:=⟨(fun m h=>by cases h),(fun l h=>by cases h),(fun s e N h=>by cases h;exact⟨⟨_,Try.underlying134,Try.underlying9⟩⟩),(fun m s h=>by cases h),(fun m q h=>by cases h)⟩
def q5s:qfp:={ ar:=some (3,1),ba:=some (3,(.int .i64)) }
theorem qyc:qfp.Ok Try.prog 144 q5s:=⟨(fun m h=>by cases h),(fun l h=>by cases h),(fun s e N h=>by cases h),(fun m s h=>by cases h;exact⟨_,inferInstance⟩),(fun m q h=>by cases h;kernel_rfl)⟩
theorem qim{t:TypeId}{b:Bool}{x y:qfp}(h1:qfp.Ok Try.prog t x)(h2:qfp.Ok Try.prog t y):qfp.Ok Try.prog t (bif b then x else y):=by cases b<;>assumption
theorem qh1{t n:TypeId}{x:qfp}(h:qfp.Ok Try.prog n x):qfp.Ok Try.prog t (bif Nat.beq t n then x else {}):=by
 cases hb:Nat.beq t n with
 |true=>obtain rfl:=zg2 hb;exact h
 |false=>exact⟨fun m h=>(by cases h),fun l h=>(by cases h),fun s e N h=>(by cases h),fun m s h=>(by cases h),fun m q h=>(by cases h)⟩
def zfq(t:TypeId):qfp:=(bif Nat.blt t 57 then(bif Nat.blt t 46 then(bif Nat.blt t 39 then(bif Nat.beq t 30 then zau else {})else(bif Nat.blt t 41 then(bif Nat.beq t 39 then zat else {})else(bif Nat.beq t 41 then zas else {})))else(bif Nat.blt t 53 then(bif Nat.blt t 51 then(bif Nat.beq t 46 then zar else {})else(bif Nat.beq t 51 then zaq else {}))else(bif Nat.blt t 55 then(bif Nat.beq t 53 then zap else {})else(bif Nat.beq t 55 then zao else {}))))else(bif Nat.blt t 91 then(bif Nat.blt t 59 then(bif Nat.blt t 58 then(bif Nat.beq t 57 then zan else {})else(bif Nat.beq t 58 then zam else {}))else(bif Nat.blt t 64 then(bif Nat.beq t 59 then zal else {})else(bif Nat.beq t 64 then zak else {})))else(bif Nat.blt t 134 then(bif Nat.blt t 107 then(bif Nat.beq t 91 then zaj else {})else(bif Nat.beq t 107 then q5u else {}))else(bif Nat.blt t 144 then(bif Nat.beq t 134 then q5t else {})else(bif Nat.beq t 144 then q5s else {})))))
theorem q7f(t:TypeId):qfp.Ok Try.prog t (zfq t):=(qim (qim (qim (qh1 q29) (qim (qh1 q28) (qh1 q26))) (qim (qim (qh1 q25) (qh1 q24)) (qim (qh1 q23) (qh1 q22)))) (qim (qim (qim (qh1 q21) (qh1 q20)) (qim (qh1 q2z) (qh1 q2y))) (qim (qim (qh1 q2x) (qh1 qye)) (qim (qh1 qyd) (qh1 qyc)))))
instance:TyX Try.prog:=⟨zfq,q7f⟩
end Go.Abs
set_option linter.unusedSectionVars false
set_option linter.unusedSimpArgs false
set_option maxHeartbeats 1000000
namespace Go.Abs
open Go Go.Proofs
noncomputable section
def sh59:List OSh:=[(.box 30 (.st 6)),(.box 51 (.st 1))]
def sh60:List OSh:=[(.box 30 (.st 6)),(.lst 9 .str)]
def sh61:List OSh:=[(.box 30 (.st 6)),(.box 39 (.st 2))]
def sh62:List OSh:=[(.box 30 (.st 6)),(.box 46 (.st 0))]
def sh63:List OSh:=[(.box 30 (.st 6)),(.box 46 (.st 0)),(.lst 3 (.int .i64))]
def sh64:List OSh:=[(.box 30 (.st 6)),(.lst 4 .bool)]
def sh65:List OSh:=[(.box 30 (.st 6)),(.lst 4 .bool),(.box 41 (.st 3)),(.lst 4 .bool)]
def sh66:List OSh:=[(.cells 69 [(.full 4)]),(.cells 25 [(.full 6)]),(.box 30 (.st 6)),(.cells 120 [(.fn 101 [(.ptr 0 0),(.ptr 1 0),(.ptr 2 0),(.ptr 3 0)])]),(.lst 4 .bool),.dead,(.lst 3 (.int .i64))]
def sh67:List (Nat×Sh):=[(1,(.ptr 0 0)),(3,(.full 1)),(4,(.i .i64)),(5,(.ptr 2 0))]
def sh68:List OSh:=[(.box 30 (.st 6)),(.lst 9 .str),(.box 53 (.st 4))]
def sh69:List OSh:=[(.box 46 (.st 0)),(.lst 3 (.int .i64))]
def sh19:SSh:=⟨[(1,(.ptr 0 0)),(3,(.i .i64))],[(.box 30 (.st 6))]⟩
def sh20:SSh:=⟨[(1,(.ptr 0 0)),(3,(.i .i64)),(4,(.i .i64))],[(.box 30 (.st 6))]⟩
def sh21:SSh:=⟨[(2,.b)],[]⟩
def sh22:SSh:=⟨[(0,(.i .u8)),(1,(.i .i64)),(5,(.i .i64))],[]⟩
def sh23:SSh:=⟨[(0,(.fz (.int .i64))),(3,(.i .u64)),(4,(.i .i64))],[]⟩
def sh24:SSh:=⟨[(0,(.fz (.int .i64))),(1,(.i .i64))],[]⟩
def sh25:SSh:=⟨[(0,(.fz (.int .i64))),(1,(.i .i64)),(5,(.i .i64))],[]⟩
def sh26:SSh:=⟨[(1,(.fz (.int .i64))),(2,(.fz .bool)),(3,(.ptr 0 0)),(7,(.i .i64))],[(.box 30 (.st 6))]⟩
def sh27:SSh:=⟨[(5,(.full 0))],[(.lst 3 (.int .i64))]⟩
def sh28:SSh:=⟨[(0,(.i .i64)),(1,(.i .u64)),(5,(.full 0)),(6,(.i .i64))],[(.lst 3 (.int .i64))]⟩
def sh29:SSh:=⟨[(0,.s),(3,(.i .i64))],[]⟩
def sh30:SSh:=⟨[(3,(.ptr 0 0)),(4,(.ptr 1 0)),(7,(.fz (.int .i64))),(8,(.i .i64))],sh59⟩
def sh31:SSh:=⟨[(1,(.ptr 0 0)),(3,(.full 1))],sh60⟩
def sh32:SSh:=⟨[(1,(.ptr 0 0)),(3,(.full 1)),(4,(.i .i64))],sh60⟩
def sh33:SSh:=⟨[(1,(.ptr 0 0)),(3,(.full 1)),(6,(.i .i64))],sh60⟩
def sh34:SSh:=⟨[(1,(.ptr 0 0))],[(.box 30 (.st 6))]⟩
def sh35:SSh:=⟨[(1,(.ptr 0 0)),(3,(.full 1)),(7,(.i .i64))],sh60⟩
def sh36:SSh:=⟨[(1,(.ptr 0 0)),(3,(.full 1)),(7,(.i .i64)),(8,(.i .i64))],sh60⟩
def sh37:SSh:=⟨[(2,(.fz .bool)),(3,(.ptr 0 0)),(4,(.ptr 1 0)),(7,(.i .i64))],sh61⟩
def sh38:SSh:=⟨[(2,(.fz .bool)),(3,(.ptr 0 0)),(4,(.ptr 1 0)),(7,(.i .i64)),(8,(.i .i64))],sh61⟩
def sh39:SSh:=⟨[(2,(.fz .bool)),(3,(.ptr 0 0)),(4,(.ptr 1 0))],sh61⟩
def sh40:SSh:=⟨[(2,(.fz .bool)),(3,(.ptr 0 0)),(4,(.ptr 1 0)),(9,(.i .i64))],sh61⟩
def sh41:SSh:=⟨[(2,(.ptr 0 0)),(3,(.ptr 1 0)),(5,.b)],sh62⟩
def sh42:SSh:=⟨[(2,(.ptr 0 0)),(3,(.ptr 1 0)),(5,.b),(6,(.i .i64)),(7,(.full 2))],sh63⟩
def sh43:SSh:=⟨[(2,(.ptr 0 0)),(3,(.ptr 1 0)),(5,.b),(6,(.i .i64)),(7,(.full 2)),(8,(.i .i64))],sh63⟩
def sh44:SSh:=⟨[(2,(.ptr 0 0)),(3,(.ptr 1 0)),(6,(.i .i64)),(7,(.full 2))],sh63⟩
def sh45:SSh:=⟨[(1,(.ptr 0 0)),(3,(.full 1))],sh64⟩
def sh46:SSh:=⟨[(1,(.ptr 0 0)),(3,(.full 1)),(46,(.i .i64)),(47,(.i .i64))],sh64⟩
def sh47:SSh:=⟨[(1,(.ptr 0 0)),(3,(.full 1)),(4,(.i .i64))],sh64⟩
def sh48:SSh:=⟨[(1,(.ptr 0 0)),(3,(.full 1)),(4,(.i .i64)),(5,(.ptr 2 0)),(6,(.full 3))],sh65⟩
def sh49:SSh:=⟨[(1,(.ptr 0 0)),(3,(.full 1)),(4,(.i .i64)),(5,(.ptr 2 0)),(6,(.full 3)),(101,(.i .i64)),(102,(.i .i64))],sh65⟩
def sh50:SSh:=⟨[(1,(.ptr 0 0)),(3,(.full 1)),(4,(.i .i64)),(5,(.ptr 2 0)),(6,(.full 3)),(7,(.i .i64))],sh65⟩
def sh51:SSh:=⟨[(1,(.ptr 0 0)),(3,(.full 1)),(4,(.i .i64)),(5,(.ptr 2 0)),(6,(.full 3)),(9,(.i .i64))],sh65⟩
def sh52:SSh:=⟨[(1,(.ptr 0 0)),(3,(.full 1)),(4,(.i .i64)),(5,(.ptr 2 0)),(6,(.full 3)),(9,(.i .i64)),(10,(.ptr 4 0))],[(.box 30 (.st 6)),(.lst 4 .bool),(.box 41 (.st 3)),(.lst 4 .bool),(.box 46 (.st 0))]⟩
def sh53:SSh:=⟨[(0,(.fz (.int .i64))),(1,(.fz (.int .i64))),(5,(.i .i64))],[]⟩
def sh54:SSh:=⟨[(4,(.ptr 3 0)),(35,(.fz (.st 1))),(36,(.i .i64)),(37,(.i .i64))],sh66⟩
def sh55:SSh:=⟨[(2,(.full 1))],[.dead,(.lst 3 (.int .i64))]⟩
def sh56:SSh:=⟨[(1,(.i .i64)),(2,(.full 1)),(3,(.ptr 2 0)),(7,(.i .i64))],[.dead,(.lst 3 (.int .i64)),(.box 30 (.st 6))]⟩
def sh57:SSh:=⟨[(0,(.fz (.int .i64))),(1,(.fz (.int .i64))),(5,(.full 0)),(6,(.i .i64))],[(.lst 3 (.int .i64))]⟩
def sh58:SSh:=⟨[(0,(.i .i64)),(1,(.ptr 0 0)),(2,(.ptr 6 0)),(3,(.ptr 8 0))],[(.cells 30 [.s,(.full 1),(.full 2),(.full 3),(.full 4),(.full 5)]),(.lst 3 (.int .i64)),(.lst 53 (.st 4)),(.lst 55 (.st 5)),(.lst 3 (.int .i64)),(.lst 41 (.st 14)),(.cells 91 [(.qcd 7)]),(.mp false (.int .i64)),(.cells 25 [(.full 9)]),(.lst 3 (.int .i64))]⟩
abbrev ty3:=(Unit×(Unit×(Int×Unit)))
abbrev ty5:=(Fn×((List Bool)×(Block×((List Bool)×Unit))))
abbrev ty13:=((Unit×(Unit×(Int×ty3)))×ty5)
abbrev ty1:=(ty13⊕(((Unit×(Unit×(Int×(Unit×(Unit×Unit)))))×ty5)⊕((Bool×Unit)×Unit)))
abbrev ty6:=(ty3×(Fn×((List ByteArray)×Unit)))
abbrev ty2:=(ty6⊕(((Unit×(Unit×Unit))×(Fn×((List ByteArray)×Unit)))⊕((Bool×Unit)×Unit)))
abbrev ty15:=(Unit×((List Int)×Unit))
abbrev ty4:=((Unit×Unit)×((Unit×Unit)×(Fn×(((Unit×(Unit×(Unit×(Unit×Unit))))×Unit)×((List Bool)×ty15)))))
abbrev ty7:=(Unit×(Unit×(Int×(Int×Unit))))
abbrev ty8:=((Unit×Unit)⊕((Bool×Unit)×Unit))
abbrev ty9:=((List Int)×(Int×(Int×Unit)))
abbrev ty10:=(qau×((List Int)×Unit))
abbrev ty11:=(Int×(Unit×(Int×Unit)))
abbrev ty12:=(((List Bool)×ty3)×(Fn×(Term×Unit)))
abbrev ty14:=(((ByteArray×(Int×Unit))×Unit)⊕(((ByteArray×Unit)×Unit)⊕((Bool×Unit)×Unit)))
abbrev ty16:=((List Int)×(Int×Unit))
abbrev ty17:=(Fn×((List Bool)×Unit))
abbrev ty18:=((Int×(Bool×Unit))×Unit)
def ann42:Ann:=(.seq .o (.seq .o .o))
def go42(x0:Int):(Option (Bool×Unit)):=(bif(decide (2<=x0))then(some ((decide (x0<=20)),()))else(some (false,())))
theorem run42(x0:Int):qei (P:=Try.prog) [] Try.f42 ann42 [(0,(.i .i64))] [] .b [] (x0,()) ()=go42 x0:=by kernel_rfl
def ann43:Ann:=(.seq .o (.seq .o .o))
def go43(x0:Int):(Option (Bool×Unit)):=(bif(decide (2<=x0))then(some ((decide (x0<=20)),()))else(some (false,())))
theorem run43(x0:Int):qei (P:=Try.prog) [] Try.f43 ann43 [(0,(.i .i64))] [] .b [] (x0,()) ()=go43 x0:=by kernel_rfl
def ann15:Ann:=(.seq .o (.seq .o .o))
def go15(x0:Int):(Option (Bool×Unit)):=(bif(decide (1<=x0))then(some ((decide (x0<=24)),()))else(some (false,())))
theorem run15(x0:Int):qei (P:=Try.prog) [] Try.f15 ann15 [(0,(.i .i64))] [] .b [] (x0,()) ()=go15 x0:=by kernel_rfl
def ann92:Ann:=(.seq .o (.seq .o .o))
def go92(x0:Int):(Option (Bool×Unit)):=(bif(decide (1<=x0))then(some ((decide (x0<=64)),()))else(some (false,())))
theorem run92(x0:Int):qei (P:=Try.prog) [] Try.f92 ann92 [(0,(.i .i64))] [] .b [] (x0,()) ()=go92 x0:=by kernel_rfl
def ann94:Ann:=(.seq .o (.seq .o .o))
def go94(x0:Int):(Option (Bool×Unit)):=(bif(decide (15<=x0))then(some ((decide (x0<=20)),()))else(some (false,())))
theorem run94(x0:Int):qei (P:=Try.prog) [] Try.f94 ann94 [(0,(.i .i64))] [] .b [] (x0,()) ()=go94 x0:=by kernel_rfl
def ann90:Ann:=(.seq .o (.seq .o .o))
def go90(x0:Int):(Option (Bool×Unit)):=(bif(decide (97<=x0))then(bif(decide (x0<=122))then(some (true,()))else(bif(decide (65<=x0))then(bif(decide (x0<=90))then(some (true,()))else(some ((decide (x0=95)),())))else(some ((decide (x0=95)),()))))else(bif(decide (65<=x0))then(bif(decide (x0<=90))then(some (true,()))else(some ((decide (x0=95)),())))else(some ((decide (x0=95)),()))))
theorem run90(x0:Int):qei (P:=Try.prog) [] Try.f90 ann90 [(0,(.i .u8))] [] .b [] (x0,()) ()=go90 x0:=by kernel_rfl
def ann47:Ann:=(.seq .o (.seq .o .o))
def go47(x0:Fn)(x1:Int):(Option (Bool×Unit)):=(bif(decide (0<=x1))then(some ((decide (x1<(x0.qab.length:Int))),()))else(some (false,())))
theorem run47(x0:Fn)(x1:Int):qei (P:=Try.prog) [] Try.f47 ann47 [(0,(.st 6)),(1,(.i .i64))] [] .b [] (x0,(x1,())) ()=go47 x0 x1:=by kernel_rfl
def ann78:Ann:=(.seq .o (.seq .o .o))
def go78(x0:Int):(Option (Int×Unit)):=(some ((if(64<(if(0>x0)then 0 else x0))then 64 else(if(0>x0)then 0 else x0)),()))
theorem run78(x0:Int):qei (P:=Try.prog) [] Try.f78 ann78 [(0,(.i .i64))] [] (.i .i64) [] (x0,()) ()=go78 x0:=by kernel_rfl
def ann17:Ann:=(.seq .o (.seq .o (.join sh19 (.seq .o (.block (.loop sh20 [((.exit 0),sh19),(.ret,sh21)] (.join sh20 (.seq .o (.cond .o .o)) (.join sh20 (.block (.seq .w (.seq .o (.cond (.seq .o .o) .o)))) .o))))) (.seq .o .o))))
def go17_l1:((Unit×(Int×(Int×Unit)))×(Fn×Unit))->Option (((Unit×(Int×(Int×Unit)))×(Fn×Unit))⊕(((Unit×(Int×Unit))×(Fn×Unit))⊕((Bool×Unit)×Unit))):=(fun r0=>(bif(decide (r0.1.2.2.1<(r0.2.1.blocks.length:Int)))then(grd (okB ((0<=r0.1.2.2.1)/\(r0.1.2.2.1<(r0.2.1.blocks.length:Int)))) (grd (okB ((0<=r0.1.2.2.1)/\(r0.1.2.2.1<(r0.2.1.blocks.length:Int)))) (bif(decide (100<(((r0.2.1.blocks.getD r0.1.2.2.1.toNat Block.z).params.length:Nat):Int)))then(some (Sum.inr (Sum.inr ((false,()),()))))else(grd (okB (((-9223372036854775808)<=(r0.1.2.2.1+1))/\((r0.1.2.2.1+1)<=9223372036854775807))) (some (Sum.inl (((),((Go.IntKind.wrap Go.IntKind.i64 (r0.1.2.1+(((r0.2.1.blocks.getD r0.1.2.2.1.toNat Block.z).insts.length:Nat):Int))),((r0.1.2.2.1+1),()))),(r0.2.1,()))))))))else(some (Sum.inr (Sum.inl (((),(r0.1.2.1,())),(r0.2.1,())))))))
def go17(x0:Fn):(Option (Bool×Unit)):=(qak (qap (go17_l1) (((),(0,(0,()))),(x0,()))) (fun z0=>(qjo (fun z1=>(bif(decide ((z1.2.1.blocks.length:Int)<=30))then(bif(decide (z1.1.2.1<=300))then(some ((decide ((z1.2.1.qab.length:Int)<=600)),()))else(some (false,())))else(some (false,())))) (fun z1=>(some (z1.1.1,()))) z0)))
theorem run17(x0:Fn):qei (P:=Try.prog) [] Try.f17 ann17 [(0,(.st 6))] [] .b [] (x0,()) ()=go17 x0:=by kernel_rfl
def ann91:Ann:=(.seq .o (.seq .o (.join sh22 (.seq .o (.cond .o .o)) (.join sh22 (.seq .o (.cond .o .o)) (.join ⟨[(1,(.i .i64)),(5,(.i .i64))],[]⟩ (.seq .o (.cond .o .o)) (.join ⟨[(5,(.i .i64))],[]⟩ (.seq .o (.cond (.seq .o .o) .o)) (.seq .o .o)))))))
def go91_j3:((Int×(Int×Unit))×Unit)->Option (Int×Unit):=(fun z2=>(bif(decide (z2.1.1<=z2.1.2.1))then(some ((-1),()))else(some (z2.1.2.1,()))))
def go91_j2:((Int×(Int×(Int×Unit)))×Unit)->Option (Int×Unit):=(fun z1=>(jpO (go91_j3) (fun j0=>(bif(decide (65<=z1.1.1))then(bif(decide (z1.1.1<=70))then(grd (okB (((-9223372036854775808)<=((Go.IntKind.wrap Go.IntKind.i64 (Go.IntKind.wrap Go.IntKind.u8 (z1.1.1-65)))+10))/\(((Go.IntKind.wrap Go.IntKind.i64 (Go.IntKind.wrap Go.IntKind.u8 (z1.1.1-65)))+10)<=9223372036854775807))) (j0 ((z1.1.2.1,(((Go.IntKind.wrap Go.IntKind.i64 (Go.IntKind.wrap Go.IntKind.u8 (z1.1.1-65)))+10),())),())))else(j0 ((z1.1.2.1,(z1.1.2.2.1,())),())))else(j0 ((z1.1.2.1,(z1.1.2.2.1,())),()))))))
def go91_j1:((Int×(Int×(Int×Unit)))×Unit)->Option (Int×Unit):=(fun z0=>(jpO (go91_j2) (fun j0=>(bif(decide (97<=z0.1.1))then(bif(decide (z0.1.1<=102))then(grd (okB (((-9223372036854775808)<=((Go.IntKind.wrap Go.IntKind.i64 (Go.IntKind.wrap Go.IntKind.u8 (z0.1.1-97)))+10))/\(((Go.IntKind.wrap Go.IntKind.i64 (Go.IntKind.wrap Go.IntKind.u8 (z0.1.1-97)))+10)<=9223372036854775807))) (j0 ((z0.1.1,(z0.1.2.1,(((Go.IntKind.wrap Go.IntKind.i64 (Go.IntKind.wrap Go.IntKind.u8 (z0.1.1-97)))+10),()))),())))else(j0 ((z0.1.1,(z0.1.2.1,(z0.1.2.2.1,()))),())))else(j0 ((z0.1.1,(z0.1.2.1,(z0.1.2.2.1,()))),()))))))
def go91(x0:Int)(x1:Int):(Option (Int×Unit)):=(jpO (go91_j1) (fun j0=>(bif(decide (48<=x0))then(bif(decide (x0<=57))then(j0 ((x0,(x1,((Go.IntKind.wrap Go.IntKind.i64 (Go.IntKind.wrap Go.IntKind.u8 (x0-48))),()))),()))else(j0 ((x0,(x1,((-1),()))),())))else(j0 ((x0,(x1,((-1),()))),())))))
theorem run91(x0:Int)(x1:Int):qei (P:=Try.prog) [] Try.f91 ann91 [(0,(.i .u8)),(1,(.i .i64))] [] (.i .i64) [] (x0,(x1,())) ()=go91 x0 x1:=by kernel_rfl
def ann79:Ann:=(.seq .o (.seq .o (.join ⟨[(3,(.i .u64))],[]⟩ (.seq .o (.block (.loop sh23 [((.exit 0),⟨[(3,(.i .u64))],[]⟩)] (.join sh23 (.seq .o (.cond .o .o)) (.join sh23 (.block .o) .o))))) (.seq .o .o))))
def go79_l1:(ty9×Unit)->Option ((ty9×Unit)⊕((Int×Unit)×Unit)):=(fun r0=>(bif(decide (0<=r0.1.2.2.1))then(grd (okB ((0<=r0.1.2.2.1)/\(r0.1.2.2.1<(r0.1.1.length:Int)))) (grd (okB (((-9223372036854775808)<=(r0.1.2.2.1-1))/\((r0.1.2.2.1-1)<=9223372036854775807))) (some (Sum.inl ((r0.1.1,((Go.IntKind.wrap Go.IntKind.u64 ((Go.IntKind.wrap Go.IntKind.u64 (2*r0.1.2.1))+(Go.IntKind.wrap Go.IntKind.u64 (r0.1.1.getD r0.1.2.2.1.toNat 0)))),((r0.1.2.2.1-1),()))),())))))else(some (Sum.inr ((r0.1.2.1,()),())))))
def go79(x0:(List Int)):(Option (Int×Unit)):=(grd (okB (((-9223372036854775808)<=((x0.length:Int)-1))/\(((x0.length:Int)-1)<=9223372036854775807))) (qak (qap (go79_l1) ((x0,(0,(((x0.length:Int)-1),()))),())) (fun z0=>(some (z0.1.1,())))))
theorem run79(x0:(List Int)):qei (P:=Try.prog) [] Try.f79 ann79 [(0,(.fz (.int .i64)))] [] (.i .u64) [] (x0,()) ()=go79 x0:=by kernel_rfl
def Sp.qdp(op:Int):Bool:=decide (2<=op)&&decide (op<=20)
theorem ok42(op:Int):go42 op=some (Sp.qdp op,()):=by
 unfold go42 Sp.qdp;by_cases h:2<=op<;>simp[h]
def c42:Ctr Try.prog:=qcn 42 Try.f42 Try.func42 [] ann42 [(0,(.i .i64))] [] .b [] (fun x _=>some (Sp.qdp x.1,())) (fun x _ r h=>FE (run42 x.1) (ok42 x.1) h)
theorem ok43(op:Int):go43 op=some (Sp.qdp op,()):=by
 unfold go43 Sp.qdp;by_cases h:2<=op<;>simp[h]
def c43:Ctr Try.prog:=qcn 43 Try.f43 Try.func43 [] ann43 [(0,(.i .i64))] [] .b [] (fun x _=>some (Sp.qdp x.1,())) (fun x _ r h=>FE (run43 x.1) (ok43 x.1) h)
def Sp.qrn(op:Int):Bool:=decide (1<=op)&&decide (op<=24)
theorem ok15(op:Int):go15 op=some (Sp.qrn op,()):=by
 unfold go15 Sp.qrn;by_cases h:1<=op<;>simp[h]
def c15:Ctr Try.prog:=qcn 15 Try.f15 Try.func15 [] ann15 [(0,(.i .i64))] [] .b [] (fun x _=>some (Sp.qrn x.1,())) (fun x _ r h=>FE (run15 x.1) (ok15 x.1) h)
def Sp.right(w:Int):Bool:=decide (1<=w)&&decide (w<=64)
theorem ok92(op:Int):go92 op=some (Sp.right op,()):=by
 unfold go92 Sp.right;by_cases h:1<=op<;>simp[h]
def c92:Ctr Try.prog:=qcn 92 Try.f92 Try.func92 [] ann92 [(0,(.i .i64))] [] .b [] (fun x _=>some (Sp.right x.1,())) (fun x _ r h=>FE (run92 x.1) (ok92 x.1) h)
def Sp.qe1(op:Int):Bool:=decide (15<=op)&&decide (op<=20)
theorem ok94(op:Int):go94 op=some (Sp.qe1 op,()):=by
 unfold go94 Sp.qe1;by_cases h:15<=op<;>simp[h]
def c94:Ctr Try.prog:=qcn 94 Try.f94 Try.func94 [] ann94 [(0,(.i .i64))] [] .b [] (fun x _=>some (Sp.qe1 x.1,())) (fun x _ r h=>FE (run94 x.1) (ok94 x.1) h)
def Sp.letter(c:Int):Bool:=(decide (97<=c)&&decide (c<=122))||(decide (65<=c)&&decide (c<=90))||decide (c=95)
theorem ok90(c:Int):go90 c=some (Sp.letter c,()):=by
 unfold go90 Sp.letter;by_cases h1:97<=c<;>by_cases h2:c<=122<;>by_cases h3:65<=c<;>by_cases h4:c<=90<;>simp[h1,h2,h3,h4]
def c90:Ctr Try.prog:=qcn 90 Try.f90 Try.func90 [] ann90 [(0,(.i .u8))] [] .b [] (fun x _=>some (Sp.letter x.1,())) (fun x _ r h=>FE (run90 x.1) (ok90 x.1) h)
def Sp.within(f:Fn)(v:Int):Bool:=decide (0<=v)&&decide (v<f.qab.length)
theorem ok47(f:Fn)(v:Int):go47 f v=some (Sp.within f v,()):=by
 unfold go47 Sp.within;by_cases h:0<=v<;>simp[h]
def c47:Ctr Try.prog:=qcn 47 Try.f47 Try.func47 [] ann47 [(0,(.st 6)),(1,(.i .i64))] [] .b [] (fun x _=>some (Sp.within x.1 x.2.1,())) (fun x _ r h=>FE (run47 x.1 x.2.1) (ok47 x.1 x.2.1) h)
abbrev Fn.blk(f:Fn)(i:Nat):Block:=f.blocks.getD i Block.z
theorem Fn.qz9{f:Fn}(h:f.ok):f.blocks.length<=LEN:=h.2.2.2.2.2.len
theorem Fn.q6m{f:Fn}(h:f.ok){i:Nat}(hi:i<f.blocks.length):(f.blk i).ok:=qic h.2.2.2.2.2 _ hi
def Sp.qmq(l:List Block):Nat->Int
 |0=>0
 |i+1=>IntKind.i64.wrap (Sp.qmq l i+((l.getD i Block.z).insts.length:Int))
def Sp.few(f:Fn):Bool:=f.blocks.all (fun b=>!decide (100<(b.params.length:Int)))&&decide ((f.blocks.length:Int)<=30)&&decide (Sp.qmq f.blocks f.blocks.length<=300)&&decide ((f.qab.length:Int)<=600)
theorem ok17(f:Fn)(hf:f.ok):go17 f=some (Sp.few f,()):=by
 have hb:=Fn.qz9 hf;rw[qc6]at hb;unfold go17 go17_l1;refine qbj (qbg (l:=f.blocks) (st:=fun i=>(((),Sp.qmq f.blocks i,(i:Int),()),f,())) rfl Block.z (fun b=>!decide (100<(b.params.length:Int)))
  (A:=.inl (((),Sp.qmq f.blocks f.blocks.length,()),f,())) (B:=.inr ((false,()),())) (fun i hi hp=>?_) (fun i hi hp=>?_) (fun _=>?_)) ?_
 ·have hp:¬ 100<(((f.blocks.getD i Block.z).params.length:Nat):Int):=by simpa using hp
  simp(maxSteps:=1000000) (disch:=((try dsimp only);omega)) only[↓gsA,gsB]
  rfl
 ·have hp:100<(((f.blocks.getD i Block.z).params.length:Nat):Int):=by simpa using hp
  simp(maxSteps:=1000000) (disch:=((try dsimp only);omega)) only[↓gsA,gsB]
 ·simp(maxSteps:=1000000) (disch:=((try dsimp only);omega)) only[↓gsA,gsB]
 ·unfold Sp.few;by_cases h:(f.blocks.all fun b=>!decide (100<(b.params.length:Int)))=true
  ·rw[if_pos h,h];by_cases h1:(f.blocks.length:Int)<=30<;>by_cases h2:Sp.qmq f.blocks f.blocks.length<=300<;>simp[h1,h2]
  ·rw[if_neg h,eq_false_of_ne_true h];simp
def c17:Ctr Try.prog:=qcn 17 Try.f17 Try.func17 [] ann17 [(0,(.st 6))] [] .b [] (fun x _=>grd (okB x.1.ok) (some (Sp.few x.1,()))) (fun x _ r h=>FO (run17 x.1) (ok17 x.1) h)
def Sp.width(w:Int):Int:=if 64<(if w<0 then 0 else w)then 64 else(if w<0 then 0 else w)
theorem qul(w:Int):0<=Sp.width w/\Sp.width w<=64:=by unfold Sp.width;split<;>split<;>omega
theorem ok78(w:Int):go78 w=some (Sp.width w,()):=by unfold go78 Sp.width;rfl
def c78:Ctr Try.prog:=qcn 78 Try.f78 Try.func78 [] ann78 [(0,(.i .i64))] [] (.i .i64) [] (fun x _=>some (Sp.width x.1,())) (fun x _ r h=>FE (run78 x.1) (ok78 x.1) h)
def Sp.q64(c:Int):Int:=if 48<=c/\c<=57 then c-48 else -1
def Sp.q63(c:Int):Int:=if 97<=c/\c<=102 then c-97+10 else Sp.q64 c
def Sp.q1q(c:Int):Int:=if 65<=c/\c<=70 then c-65+10 else Sp.q63 c
def Sp.digit(c base:Int):Int:=if base<=Sp.q1q c then -1 else Sp.q1q c
theorem ok91(c base:Int):go91 c base=some (Sp.digit c base,()):=by
 have u:∀z:Int,0<=z->z<=255->IntKind.i64.wrap (IntKind.u8.wrap z)=z:=fun z h1 h2=>by
  rw[IntWalk.u8_in _ (by omega),qd2 (by omega) (by omega)]
 unfold go91 go91_j1 go91_j2 go91_j3 Sp.digit Sp.q1q Sp.q63 Sp.q64
 by_cases a1:48<=c<;>by_cases a2:c<=57<;>by_cases a3:97<=c<;>by_cases a4:c<=102<;>by_cases a5:65<=c<;>by_cases a6:c<=70<;>first
  |omega
  | (simp(disch:=omega) only[a1,a2,a3,a4,a5,a6,u,qd9,qc1,if_true,if_false,and_self,and_true,true_and,and_false,false_and,qib]
     first|rfl|(split<;>rfl))
def c91:Ctr Try.prog:=qcn 91 Try.f91 Try.func91 [] ann91 [(0,(.i .u8)),(1,(.i .i64))] [] (.i .i64) [] (fun x _=>some (Sp.digit x.1 x.2.1,())) (fun x _ r h=>FE (run91 x.1 x.2.1) (ok91 x.1 x.2.1) h)
def Sp.wd(l:List Int):Nat->Int
 |0=>0
 |k+1=>IntKind.u64.wrap (IntKind.u64.wrap (2*Sp.wd l k)+IntKind.u64.wrap (l.getD (l.length-1-k) 0))
theorem ok79(l:List Int)(hl:l.length<=LEN):go79 l=some (Sp.wd l l.length,()):=by
 rw[qc6]at hl;unfold go79 go79_l1;simp(maxSteps:=1000000) (disch:=((try dsimp only);omega)) only[↓gsA,gsB]
 refine qbj (qct (st:=fun k=>((l,Sp.wd l k,(l.length:Int)-1-k,()),())) (by simp[Sp.wd]) l.length (X0:=((Sp.wd l l.length,()),())) (fun k hk=>?_) ?_) ?_
 ·have e:l.length-1-k=((l.length:Int)-1-k).toNat:=by omega
  have e2:(l.length:Int)-1-((k+1:Nat):Int)=(l.length:Int)-1-k-1:=by omega
  simp(maxSteps:=1000000) (disch:=((try dsimp only);omega)) only[↓gsA,gsB]
  simp only[Sp.wd,e];rw[<- e2];rfl
 ·simp(maxSteps:=1000000) (disch:=((try dsimp only);omega)) only[↓gsA,gsB]
 ·rfl
def c79:Ctr Try.prog:=qcn 79 Try.f79 Try.func79 [] ann79 [(0,(.fz (.int .i64)))] [] (.i .u64) [] (fun x _=>grd (okB (x.1.length<=LEN)) (some (Sp.wd x.1 x.1.length,()))) (fun x _ r h=>FO (run79 x.1) (ok79 x.1) h)
end
end Go.Abs
namespace Go.Abs
open Go Go.Proofs
noncomputable section
def ann13:Ann:=(.seq .o (.join ⟨[],[]⟩ (.block (.seq .o (.cond (.seq .o .o) (.join ⟨[(0,(.i .i64)),(6,.b)],[]⟩ (.seq .o (.cond .o (.seq .o (.cond .o .o)))) (.cond (.seq .o .o) (.join ⟨[(0,(.i .i64)),(13,.b)],[]⟩ (.seq .o (.cond .o .o)) (.cond (.seq .o .o) (.join ⟨[(18,.b)],[]⟩ (.seq .o (.cond .o (.seq .o (.cond .o (.seq .o (.cond .o .o)))))) (.cond (.seq .o .o) .o))))))))) (.seq .o .o)))
def go13_j3:((Bool×Unit)×Unit)->Option (Int×Unit):=(fun z2=>(bif z2.1.1 then(some (1,()))else(some ((-1),()))))
def go13_j2:ty18->Option (Int×Unit):=(fun z1=>(bif z1.1.2.1 then(some (3,()))else(jpO (go13_j3) (fun j0=>(bif(decide (z1.1.1=22))then(j0 ((true,()),()))else(bif(decide (z1.1.1=23))then(j0 ((true,()),()))else(bif(decide (z1.1.1=24))then(j0 ((true,()),()))else(j0 (((decide (z1.1.1=27)),()),())))))))))
def go13_j1:ty18->Option (Int×Unit):=(fun z0=>(bif z0.1.2.1 then(some (2,()))else(jpO (go13_j2) (fun j0=>(bif(decide (z0.1.1=21))then(j0 ((z0.1.1,(true,())),()))else(j0 ((z0.1.1,((decide (z0.1.1=26)),())),())))))))
def go13(x0:Int):(Option (Int×Unit)):=(bif(decide (x0=1))then(some (0,()))else(jpO (go13_j1) (fun j0=>(bif(Sp.qdp x0)then(j0 ((x0,(true,())),()))else(bif(decide (x0=25))then(j0 ((x0,(true,())),()))else(j0 ((x0,((decide (x0=28)),())),())))))))
theorem run13(x0:Int):qei (P:=Try.prog) [c42] Try.f13 ann13 [(0,(.i .i64))] [] (.i .i64) [] (x0,()) ()=go13 x0:=by kernel_rfl
def ann14:Ann:=(.seq .o (.join ⟨[],[]⟩ (.block (.seq .o (.cond (.seq .o .o) (.join ⟨[(0,(.i .i64)),(6,.b)],[]⟩ (.seq .o (.cond .o (.seq .o (.cond .o .o)))) (.cond (.seq .o .o) (.join ⟨[(0,(.i .i64)),(13,.b)],[]⟩ (.seq .o (.cond .o .o)) (.cond (.seq .o .o) (.join ⟨[(18,.b)],[]⟩ (.seq .o (.cond .o (.seq .o (.cond .o (.seq .o (.cond .o .o)))))) (.cond (.seq .o .o) .o))))))))) (.seq .o .o)))
def go14_j3:((Bool×Unit)×Unit)->Option (Int×Unit):=(fun z2=>(bif z2.1.1 then(some (1,()))else(some ((-1),()))))
def go14_j2:ty18->Option (Int×Unit):=(fun z1=>(bif z1.1.2.1 then(some (3,()))else(jpO (go14_j3) (fun j0=>(bif(decide (z1.1.1=22))then(j0 ((true,()),()))else(bif(decide (z1.1.1=23))then(j0 ((true,()),()))else(bif(decide (z1.1.1=24))then(j0 ((true,()),()))else(j0 (((decide (z1.1.1=27)),()),())))))))))
def go14_j1:ty18->Option (Int×Unit):=(fun z0=>(bif z0.1.2.1 then(some (2,()))else(jpO (go14_j2) (fun j0=>(bif(decide (z0.1.1=21))then(j0 ((z0.1.1,(true,())),()))else(j0 ((z0.1.1,((decide (z0.1.1=26)),())),())))))))
def go14(x0:Int):(Option (Int×Unit)):=(bif(decide (x0=1))then(some (0,()))else(jpO (go14_j1) (fun j0=>(bif(Sp.qdp x0)then(j0 ((x0,(true,())),()))else(bif(decide (x0=25))then(j0 ((x0,(true,())),()))else(j0 ((x0,((decide (x0=28)),())),())))))))
theorem run14(x0:Int):qei (P:=Try.prog) [c43] Try.f14 ann14 [(0,(.i .i64))] [] (.i .i64) [] (x0,()) ()=go14 x0:=by kernel_rfl
def ann46:Ann:=(.seq .o (.join sh24 (.seq .o (.block (.loop sh25 [((.exit 0),sh24),(.ret,⟨[(4,.b)],[]⟩)] (.join sh25 (.seq .o (.cond .o .o)) (.join sh25 (.block (.seq .o (.cond (.seq .o .o) .o))) .o))))) (.seq .o .o)))
def go46_l1:(ty9×Unit)->Option ((ty9×Unit)⊕((ty16×Unit)⊕((Bool×Unit)×Unit))):=(fun r0=>(bif(decide (r0.1.2.2.1<(r0.1.1.length:Int)))then(grd (okB ((0<=r0.1.2.2.1)/\(r0.1.2.2.1<(r0.1.1.length:Int)))) (bif(!(Sp.right (r0.1.1.getD r0.1.2.2.1.toNat 0)))then(some (Sum.inr (Sum.inr ((false,()),()))))else(grd (okB (((-9223372036854775808)<=(r0.1.2.2.1+1))/\((r0.1.2.2.1+1)<=9223372036854775807))) (some (Sum.inl ((r0.1.1,(r0.1.2.1,((r0.1.2.2.1+1),()))),()))))))else(some (Sum.inr (Sum.inl ((r0.1.1,(r0.1.2.1,())),()))))))
def go46(x0:(List Int))(x1:Int):(Option (Bool×Unit)):=(qak (qap (go46_l1) ((x0,(x1,(0,()))),())) (fun z0=>(qjo (fun z1=>(some ((decide ((z1.1.1.length:Int)<=z1.1.2.1)),()))) (fun z1=>(some (z1.1.1,()))) z0)))
theorem run46(x0:(List Int))(x1:Int):qei (P:=Try.prog) [c92] Try.f46 ann46 [(0,(.fz (.int .i64))),(1,(.i .i64))] [] .b [] (x0,(x1,())) ()=go46 x0 x1:=by kernel_rfl
def ann48:Ann:=(.seq .o (.join ⟨[],[]⟩ (.seq .o (.block (.loop sh26 [((.exit 0),⟨[],[]⟩),(.ret,⟨[(6,.b)],[]⟩)] (.join sh26 (.seq .o (.cond .o .o)) (.join sh26 (.block (.seq .o (.cond (.seq .o .o) .o))) .o))))) (.seq .o .o)))
def go48_l1:(((List Int)×((List Bool)×(Unit×(Int×Unit))))×(Fn×Unit))->Option ((((List Int)×((List Bool)×(Unit×(Int×Unit))))×(Fn×Unit))⊕ty8):=(fun r0=>(bif(decide (r0.1.2.2.2.1<(r0.1.1.length:Int)))then(grd (okB ((0<=r0.1.2.2.2.1)/\(r0.1.2.2.2.1<(r0.1.1.length:Int)))) (bif(!(Sp.within r0.2.1 (r0.1.1.getD r0.1.2.2.2.1.toNat 0)))then(some (Sum.inr (Sum.inr ((false,()),()))))else(grd (okB ((0<=r0.1.2.2.2.1)/\(r0.1.2.2.2.1<(r0.1.1.length:Int)))) (grd (okB ((0<=(r0.1.1.getD r0.1.2.2.2.1.toNat 0))/\((r0.1.1.getD r0.1.2.2.2.1.toNat 0)<(r0.1.2.1.length:Int)))) (bif(!(r0.1.2.1.getD (r0.1.1.getD r0.1.2.2.2.1.toNat 0).toNat false))then(some (Sum.inr (Sum.inr ((false,()),()))))else(grd (okB (((-9223372036854775808)<=(r0.1.2.2.2.1+1))/\((r0.1.2.2.2.1+1)<=9223372036854775807))) (some (Sum.inl ((r0.1.1,(r0.1.2.1,((),((r0.1.2.2.2.1+1),())))),(r0.2.1,()))))))))))else(some (Sum.inr (Sum.inl ((),()))))))
def go48(x0:Fn)(x1:(List Int))(x2:(List Bool)):(Option (Bool×Unit)):=(qak (qap (go48_l1) ((x1,(x2,((),(0,())))),(x0,()))) (fun z0=>(qjo (fun z1=>(some (true,()))) (fun z1=>(some (z1.1.1,()))) z0)))
theorem run48(x0:Fn)(x1:(List Int))(x2:(List Bool)):qei (P:=Try.prog) [c47] Try.f48 ann48 [(0,(.st 6)),(1,(.fz (.int .i64))),(2,(.fz .bool))] [] .b [] (x0,(x1,(x2,()))) ()=go48 x0 x1 x2:=by kernel_rfl
def ann76:Ann:=(.seq .o (.seq .o (.join sh27 (.seq .o (.block (.loop sh28 [((.exit 0),sh27)] (.join sh28 (.seq .o (.cond .o .o)) (.join sh28 (.block (.seq .o .o)) .o))))) (.seq .o .o))))
def go76_l1:((Int×ty11)×((List Int)×Unit))->Option (((Int×ty11)×((List Int)×Unit))⊕((Unit×Unit)×((List Int)×Unit))):=(fun r0=>(bif(decide (r0.1.2.2.2.1<(Sp.width r0.1.1)))then(grd (okB ((((r0.2.1.length+1)*8)<=140737488355328)/\((r0.2.1.length+1)<=281474976710656))) (grd (okB (((-9223372036854775808)<=(r0.1.2.2.2.1+1))/\((r0.1.2.2.2.1+1)<=9223372036854775807))) (some (Sum.inl ((r0.1.1,((Go.IntKind.wrap Go.IntKind.u64 (Int.tdiv r0.1.2.1 2)),((),((r0.1.2.2.2.1+1),())))),((r0.2.1++((Go.IntKind.wrap Go.IntKind.i64 (Int.tmod r0.1.2.1 2))::([]:List Int))),()))))))else(some (Sum.inr (((),()),(r0.2.1,()))))))
def go76(x0:Int)(x1:Int):(Option ((List Int)×Unit)):=(qak (qap (go76_l1) ((x0,(x1,((),(0,())))),(([]:List Int),()))) (fun z0=>(some (z0.2.1,()))))
theorem run76(x0:Int)(x1:Int):qei (P:=Try.prog) [c78] Try.f76 ann76 [(0,(.i .i64)),(1,(.i .u64))] [] (.fz (.int .i64)) [] (x0,(x1,())) ()=go76 x0 x1:=by kernel_rfl
def ann44:Ann:=(.seq .o (.join ⟨[(0,.s)],[]⟩ (.seq .o (.block (.loop sh29 [((.exit 0),⟨[(0,.s)],[]⟩),(.ret,sh21)] (.join sh29 (.seq .o (.cond .o .o)) (.join sh29 (.block (.seq .o (.cond (.seq .o .o) .o))) .o))))) (.seq .o .o)))
def go44_j1:((ByteArray×(Int×Unit))×Unit)->Option ty14:=(fun z0=>(grd (okB (((-9223372036854775808)<=(z0.1.2.1+1))/\((z0.1.2.1+1)<=9223372036854775807))) (some (Sum.inl ((z0.1.1,((z0.1.2.1+1),())),())))))
def go44_l1:((ByteArray×(Int×Unit))×Unit)->Option ty14:=(fun r0=>(bif(decide (r0.1.2.1<(((ByteArray.size r0.1.1):Nat):Int)))then(jpO (go44_j1) (fun j0=>(grd (okB ((0<=r0.1.2.1)/\(r0.1.2.1<(((ByteArray.size r0.1.1):Nat):Int)))) (bif(!(Sp.letter (qpg r0.1.1 r0.1.2.1.toNat)))then(bif(decide (r0.1.2.1=0))then(some (Sum.inr (Sum.inr ((false,()),()))))else(grd (okB ((0<=r0.1.2.1)/\(r0.1.2.1<(((ByteArray.size r0.1.1):Nat):Int)))) (bif(decide ((Sp.digit (qpg r0.1.1 r0.1.2.1.toNat) 10)<0))then(some (Sum.inr (Sum.inr ((false,()),()))))else(j0 ((r0.1.1,(r0.1.2.1,())),())))))else(j0 ((r0.1.1,(r0.1.2.1,())),()))))))else(some (Sum.inr (Sum.inl ((r0.1.1,()),()))))))
def go44(x0:ByteArray):(Option (Bool×Unit)):=(qak (qap (go44_l1) ((x0,(0,())),())) (fun z0=>(qjo (fun z1=>(bif(decide (1<=(((ByteArray.size z1.1.1):Nat):Int)))then(some ((decide ((((ByteArray.size z1.1.1):Nat):Int)<=64)),()))else(some (false,())))) (fun z1=>(some (z1.1.1,()))) z0)))
theorem run44(x0:ByteArray):qei (P:=Try.prog) [c90,c91] Try.f44 ann44 [(0,.s)] [] .b [] (x0,()) ()=go44 x0:=by kernel_rfl
def Sp.arity(op:Int):Int:=
 if op=1 then 0 else if Sp.qdp op||decide (op=25)||decide (op=28)then 2 else if op=21\/op=26 then 3 else if op=22\/op=23\/op=24\/op=27 then 1 else -1
theorem ok13(op:Int):go13 op=some (Sp.arity op,()):=by
 unfold go13 go13_j1 go13_j2 go13_j3 Sp.arity;simp only[qd9,qc1];cases Sp.qdp op<;>simp only[cond_true,cond_false]<;>repeat' split
 all_goals simp_all
theorem ok14(op:Int):go14 op=some (Sp.arity op,()):=ok13 op
def c13:Ctr Try.prog:=qcn 13 Try.f13 Try.func13 [c42] ann13 [(0,(.i .i64))] [] (.i .i64) [] (fun x _=>some (Sp.arity x.1,())) (fun x _ r h=>FE (run13 x.1) (ok13 x.1) h)
def c14:Ctr Try.prog:=qcn 14 Try.f14 Try.func14 [c43] ann14 [(0,(.i .i64))] [] (.i .i64) [] (fun x _=>some (Sp.arity x.1,())) (fun x _ r h=>FE (run14 x.1) (ok14 x.1) h)
def Sp.qab(l:List Int)(most:Int):Bool:=l.all Sp.right&&decide ((l.length:Int)<=most)
theorem ok46(l:List Int)(most:Int)(hl:l.length<=LEN):go46 l most=some (Sp.qab l most,()):=by
 rw[qc6]at hl;unfold go46 go46_l1;refine qbj (qbg (l:=l) (st:=fun i=>((l,most,(i:Int),()),())) rfl 0 Sp.right (A:=.inl ((l,most,()),())) (B:=.inr ((false,()),())) (fun i hi hp=>?_) (fun i hi hp=>?_) (fun _=>?_)) ?_
 ·simp(maxSteps:=1000000) (disch:=((try dsimp only);omega)) only[↓gsA,gsB]
  rw[hp];rfl
 ·simp(maxSteps:=1000000) (disch:=((try dsimp only);omega)) only[↓gsA,gsB]
  rw[hp];rfl
 ·simp(maxSteps:=1000000) (disch:=((try dsimp only);omega)) only[↓gsA,gsB]
 ·unfold Sp.qab;cases l.all Sp.right<;>simp
def c46:Ctr Try.prog:=qcn 46 Try.f46 Try.func46 [c92] ann46 [(0,(.fz (.int .i64))),(1,(.i .i64))] [] .b [] (fun x _=>grd (okB (x.1.length<=LEN)) (some (Sp.qab x.1 x.2.1,()))) (fun x _ r h=>FO (run46 x.1 x.2.1) (ok46 x.1 x.2.1) h)
theorem within_iff{f:Fn}{v:Int}:Sp.within f v=true↔0<=v/\v<f.qab.length:=by simp[Sp.within]
def Sp.used(f:Fn)(l:List Int)(known:List Bool):Bool:=l.all fun v=>Sp.within f v&&known.getD v.toNat false
theorem ok48(f:Fn)(l:List Int)(known:List Bool)(h:l.length<=LEN/\known.length=f.qab.length):go48 f l known=some (Sp.used f l known,()):=by
 obtain⟨hl,hk⟩:=h;rw[qc6]at hl;unfold go48 go48_l1;refine qbj (qbg (l:=l) (st:=fun i=>((l,known,(),(i:Int),()),f,())) rfl 0 (fun v=>Sp.within f v&&known.getD v.toNat false) (A:=.inl ((),())) (B:=.inr ((false,()),())) (fun i hi hp=>?_) (fun i hi hp=>?_) (fun _=>?_)) ?_
 ·simp only[zgz]at hp;obtain⟨h1,h2⟩:=hp;obtain⟨h3,h4⟩:=within_iff.1 h1;simp(maxSteps:=1000000) (disch:=((try dsimp only);omega)) only[↓gsA,gsB]
  rw[h1,h2];rfl
 ·simp only[Bool.and_eq_false_iff]at hp;simp(maxSteps:=1000000) (disch:=((try dsimp only);omega)) only[↓gsA,gsB]
  cases h1:Sp.within f (l.getD i 0)with
  |false=>rfl
  |true=>
   obtain⟨h3,h4⟩:=within_iff.1 h1;rw[h1]at hp;simp(maxSteps:=1000000) (disch:=((try dsimp only);omega)) only[↓gsA,gsB]
   rcases hp with hp|hp
   ·cases hp
   ·rw[hp];rfl
 ·simp(maxSteps:=1000000) (disch:=((try dsimp only);omega)) only[↓gsA,gsB]
 ·unfold Sp.used;cases(l.all fun v=>Sp.within f v&&known.getD v.toNat false)<;>simp
def c48:Ctr Try.prog:=qcn 48 Try.f48 Try.func48 [c47] ann48 [(0,(.st 6)),(1,(.fz (.int .i64))),(2,(.fz .bool))] [] .b [] (fun x _=>grd (okB (x.2.1.length<=LEN/\x.2.2.1.length=x.1.qab.length)) (some (Sp.used x.1 x.2.1 x.2.2.1,()))) (fun x _ r h=>FO (run48 x.1 x.2.1 x.2.2.1) (ok48 x.1 x.2.1 x.2.2.1) h)
def Sp.half(x:Int):Nat->Int
 |0=>x
 |k+1=>IntKind.u64.wrap ((Sp.half x k).tdiv 2)
def Sp.qii(x:Int)(n:Nat):List Int:=(List.range n).map fun k=>(Sp.half x k).tmod 2
theorem qxp(x:Int)(n:Nat):Sp.qii x (n+1)=Sp.qii x n++[(Sp.half x n).tmod 2]:=by simp[Sp.qii,List.range_succ]
theorem qsr(x:Int)(n:Nat):(Sp.qii x n).length=n:=by simp[Sp.qii]
theorem zef(a:Int) : -2<a.tmod 2/\a.tmod 2<2:=⟨Int.lt_tmod_of_pos a (by decide),Int.tmod_lt_of_pos a (by decide)⟩
theorem ok76(w x:Int):go76 w x=some (Sp.qii x (Sp.width w).toNat,()):=by
 have hw:=qul w;unfold go76 go76_l1;refine qbj (qct (st:=fun i=>((w,Sp.half x i,(),(i:Int),()),Sp.qii x i,())) rfl (Sp.width w).toNat (X0:=(((),()),(Sp.qii x (Sp.width w).toNat,()))) (fun i hi=>?_) ?_) ?_
 ·have hl:=qsr x i;have h2:=zef (Sp.half x i);simp(maxSteps:=1000000) (disch:=((try dsimp only);omega)) only[↓gsA,gsB]
  rw[qd2 (by omega) (by omega),qxp];rfl
 ·simp(maxSteps:=1000000) (disch:=((try dsimp only);omega)) only[↓gsA,gsB]
 ·rfl
def c76:Ctr Try.prog:=qcn 76 Try.f76 Try.func76 [c78] ann76 [(0,(.i .i64)),(1,(.i .u64))] [] (.fz (.int .i64)) [] (fun x _=>some (Sp.qii x.2.1 (Sp.width x.1).toNat,())) (fun x _ r h=>FE (run76 x.1 x.2.1) (ok76 x.1 x.2.1) h)
def Sp.qmu(s:ByteArray)(i:Nat):Bool:=Sp.letter (qpg s i)||(!decide (i=0)&&!decide (Sp.digit (qpg s i) 10<0))
def Sp.ident(s:ByteArray):Bool:=(List.range s.size).all (Sp.qmu s)&&(decide (1<=(s.size:Int))&&decide ((s.size:Int)<=64))
theorem ok44(s:ByteArray)(hs:s.size<=9223372036854775807):go44 s=some (Sp.ident s,()):=by
 unfold go44 go44_l1 go44_j1;refine qbj (qbg (l:=List.range s.size) (st:=fun i=>((s,(i:Int),()),())) rfl 0 (Sp.qmu s) (A:=.inl ((s,()),())) (B:=.inr ((false,()),())) (fun i hi hp=>?_) (fun i hi hp=>?_) (fun _=>?_)) ?_
 ·rw[zhd]at hi;have e:(List.range s.size).getD i 0=i:=by simp[zg0,hi]
  rw[e]at hp;unfold Sp.qmu at hp;simp(maxSteps:=1000000) (disch:=((try dsimp only);omega)) only[↓gsA,gsB]
  cases h1:Sp.letter (qpg s i)with
  |true=>rfl
  |false=>
   rw[h1]at hp;simp only[Bool.false_or,zgz,zhn,decide_eq_false_iff_not]at hp;simp(maxSteps:=1000000) (disch:=((try dsimp only);omega)) only[↓gsA,gsB]
 ·rw[zhd]at hi;have e:(List.range s.size).getD i 0=i:=by simp[zg0,hi]
  rw[e]at hp;unfold Sp.qmu at hp;simp only[Bool.or_eq_false_iff]at hp;simp(maxSteps:=1000000) (disch:=((try dsimp only);omega)) only[↓gsA,gsB]
  rw[hp.1];simp(maxSteps:=1000000) (disch:=((try dsimp only);omega)) only[↓gsA,gsB]
  by_cases h2:i=0
  ·subst h2;rfl
  ·have h3:Sp.digit (qpg s i) 10<0:=by simpa[h2]using hp.2
   simp(maxSteps:=1000000) (disch:=((try dsimp only);omega)) only[↓gsA,gsB]
 ·rw[zhd];simp(maxSteps:=1000000) (disch:=((try dsimp only);omega)) only[↓gsA,gsB]
 ·unfold Sp.ident;cases(List.range s.size).all (Sp.qmu s)
  ·simp
  ·simp(maxSteps:=1000000) (disch:=((try dsimp only);omega)) only[↓gsA,gsB]
   by_cases h:(1:Int)<=s.size<;>simp[h]
def c44:Ctr Try.prog:=qcn 44 Try.f44 Try.func44 [c90,c91] ann44 [(0,.s)] [] .b [] (fun x _=>grd (okB (x.1.size<=9223372036854775807)) (some (Sp.ident x.1,()))) (fun x _ r h=>FO (run44 x.1) (ok44 x.1) h)
end
end Go.Abs
namespace Go.Abs
open Go Go.Proofs
noncomputable section
def ann12:Ann:=(.seq .o (.seq .o .o))
def go12:(Option (Bool×Unit)):=(bif(decide ((Sp.arity 21)=3))then(some ((Sp.qrn 2),()))else(some (false,())))
theorem run12:qei (P:=Try.prog) [c13,c15] Try.f12 ann12 [] [] .b [] () ()=go12:=by kernel_rfl
def ann49:Ann:=(.seq .o (.seq .o .o))
def go49(x0:Int):(Option (Bool×Unit)):=(bif(decide (0<=(Sp.arity x0)))then(bif(!(decide (x0=26)))then(some ((!(decide (x0=28))),()))else(some (false,())))else(some (false,())))
theorem run49(x0:Int):qei (P:=Try.prog) [c14] Try.f49 ann49 [(0,(.i .i64))] [] .b [] (x0,()) ()=go49 x0:=by kernel_rfl
def ann93:Ann:=(.seq .o (.seq .o .o))
def go93(x0:Int)(x1:Int):(Option (Int×Unit)):=(qak (grd (okB ((Sp.qii x1 (Sp.width x0).toNat).length<=LEN)) (some ((Sp.wd (Sp.qii x1 (Sp.width x0).toNat) (Sp.qii x1 (Sp.width x0).toNat).length),()))) (fun r0=>(some (r0.1,()))))
theorem run93(x0:Int)(x1:Int):qei (P:=Try.prog) [c76,c79] Try.f93 ann93 [(0,(.i .i64)),(1,(.i .u64))] [] (.i .u64) [] (x0,(x1,())) ()=go93 x0 x1:=by kernel_rfl
def ann95:Ann:=(.seq .o (.join ⟨[(3,(.ptr 0 0)),(4,(.ptr 1 0))],sh59⟩ (.seq .o (.cond (.seq .o .o) .o)) (.seq .o (.join ⟨[(3,(.ptr 0 0)),(4,(.ptr 1 0)),(7,(.fz (.int .i64)))],sh59⟩ (.seq .o (.cond (.seq .o .o) .o)) (.join ⟨[],[]⟩ (.seq .o (.block (.loop sh30 [((.exit 0),⟨[],[]⟩),(.ret,⟨[(6,.b)],[]⟩)] (.join sh30 (.seq .o (.cond .o .o)) (.join sh30 (.block (.seq .o (.cond (.seq .o .o) .o))) .o))))) (.seq .o .o))))))
def go95_l1:((Unit×(Unit×ty16))×(Fn×(Edge×Unit)))->Option (((Unit×(Unit×ty16))×(Fn×(Edge×Unit)))⊕ty8):=(fun r1=>(bif(decide (r1.1.2.2.2.1<(r1.1.2.2.1.length:Int)))then(grd (okB ((0<=r1.1.2.2.2.1)/\(r1.1.2.2.2.1<(r1.1.2.2.1.length:Int)))) (bif(!(Sp.within r1.2.1 (r1.1.2.2.1.getD r1.1.2.2.2.1.toNat 0)))then(some (Sum.inr (Sum.inr ((false,()),()))))else(grd (okB ((0<=r1.1.2.2.2.1)/\(r1.1.2.2.2.1<(r1.1.2.2.1.length:Int)))) (grd (okB ((0<=(r1.1.2.2.1.getD r1.1.2.2.2.1.toNat 0))/\((r1.1.2.2.1.getD r1.1.2.2.2.1.toNat 0)<(r1.2.1.qab.length:Int)))) (grd (okB ((0<=r1.1.2.2.2.1)/\(r1.1.2.2.2.1<(r1.2.2.1.args.length:Int)))) (grd (okB ((0<=(r1.2.2.1.args.getD r1.1.2.2.2.1.toNat 0))/\((r1.2.2.1.args.getD r1.1.2.2.2.1.toNat 0)<(r1.2.1.qab.length:Int)))) (bif(!(decide ((r1.2.1.qab.getD (r1.1.2.2.1.getD r1.1.2.2.2.1.toNat 0).toNat 0)=(r1.2.1.qab.getD (r1.2.2.1.args.getD r1.1.2.2.2.1.toNat 0).toNat 0))))then(some (Sum.inr (Sum.inr ((false,()),()))))else(grd (okB (((-9223372036854775808)<=(r1.1.2.2.2.1+1))/\((r1.1.2.2.2.1+1)<=9223372036854775807))) (some (Sum.inl (((),((),(r1.1.2.2.1,((r1.1.2.2.2.1+1),())))),(r1.2.1,(r1.2.2.1,())))))))))))))else(some (Sum.inr (Sum.inl ((),()))))))
def go95(x0:Fn)(x1:Edge)(x2:(List Bool)):(Option (Bool×Unit)):=(bif(decide (x1.block<1))then(some (false,()))else(bif(decide ((x0.blocks.length:Int)<=x1.block))then(some (false,()))else(qak (grd (okB ((x1.args.length<=LEN)/\(x2.length=x0.qab.length))) (some ((Sp.used x0 x1.args x2),()))) (fun r0=>(bif(!r0.1)then(some (false,()))else(grd (okB ((0<=x1.block)/\(x1.block<(x0.blocks.length:Int)))) (bif(!(decide ((((x0.blocks.getD x1.block.toNat Block.z).params.length:Nat):Int)=(x1.args.length:Int))))then(some (false,()))else(qak (qap (go95_l1) (((),((),((x0.blocks.getD x1.block.toNat Block.z).params,(0,())))),(x0,(x1,())))) (fun z0=>(qjo (fun z1=>(some (true,()))) (fun z1=>(some (z1.1.1,()))) z0))))))))))
theorem run95(x0:Fn)(x1:Edge)(x2:(List Bool)):qei (P:=Try.prog) [c47,c48] Try.f95 ann95 [(0,(.st 6)),(1,(.st 1)),(2,(.fz .bool))] [] .b [] (x0,(x1,(x2,()))) ()=go95 x0 x1 x2:=by kernel_rfl
theorem ok12:go12=some (true,()):=by unfold go12;simp[Sp.arity,Sp.qrn,Sp.qdp]
def c12:Ctr Try.prog:=qcn 12 Try.f12 Try.func12 [c13,c15] ann12 [] [] .b [] (fun x _=>some (true,())) (fun x _ r h=>FE run12 ok12 h)
def Sp.result(op:Int):Bool:=decide (0<=Sp.arity op)&&!decide (op=26)&&!decide (op=28)
theorem ok49(op:Int):go49 op=some (Sp.result op,()):=by
 unfold go49 Sp.result;by_cases h:0<=Sp.arity op<;>by_cases h2:op=26<;>simp[h,h2]
def c49:Ctr Try.prog:=qcn 49 Try.f49 Try.func49 [c14] ann49 [(0,(.i .i64))] [] .b [] (fun x _=>some (Sp.result x.1,())) (fun x _ r h=>FE (run49 x.1) (ok49 x.1) h)
def Sp.fit(w x:Int):Int:=Sp.wd (Sp.qii x (Sp.width w).toNat) (Sp.qii x (Sp.width w).toNat).length
theorem ok93(w x:Int):go93 w x=some (Sp.fit w x,()):=by
 have hw:=qul w;have hlen:(Sp.qii x (Sp.width w).toNat).length<=LEN:=by rw[qsr];simp only[LEN];omega
 unfold go93;rw[qas hlen];rfl
def c93:Ctr Try.prog:=qcn 93 Try.f93 Try.func93 [c76,c79] ann93 [(0,(.i .i64)),(1,(.i .u64))] [] (.i .u64) [] (fun x _=>some (Sp.fit x.1 x.2.1,())) (fun x _ r h=>FE (run93 x.1 x.2.1) (ok93 x.1 x.2.1) h)
def Sp.qsg(f:Fn)(ps qs:List Int)(i:Nat):Bool:=Sp.within f (ps.getD i 0)&&decide (f.qab.getD (ps.getD i 0).toNat 0=f.qab.getD (qs.getD i 0).toNat 0)
def Sp.qc8(f:Fn)(e:Edge)(known:List Bool):Bool:=
 (!decide (e.block<1)&&!decide ((f.blocks.length:Int)<=e.block)&&Sp.used f e.args known) &&
 (decide (((f.blk e.block.toNat).params.length:Int)=e.args.length)&&(List.range (f.blk e.block.toNat).params.length).all (Sp.qsg f (f.blk e.block.toNat).params e.args))
theorem qf7{f:Fn}{l:List Int}{known:List Bool}(h:Sp.used f l known=true){i:Nat}(hi:i<l.length):0<=l.getD i 0/\l.getD i 0<f.qab.length/\known.getD (l.getD i 0).toNat false=true:=by
 simp only[Sp.used,zhm]at h;have:=h (l.getD i 0) (by simp[zg0,hi]);simp only[zgz]at this;exact⟨(within_iff.1 this.1).1,(within_iff.1 this.1).2,this.2⟩
theorem qa7{n i:Nat}(h:i<n):(List.range n).getD i 0=i:=by simp[zg0,h]
theorem ok95(f:Fn)(e:Edge)(known:List Bool)(h:f.ok/\e.ok/\known.length=f.qab.length):go95 f e known=some (Sp.qc8 f e known,()):=by
 obtain⟨hf,he,hk⟩:=h;have hea:e.args.length<=LEN:=he.2.len;unfold go95 go95_l1;rw[qas ⟨hea,hk⟩];by_cases h1:e.block<1
 ·simp[Sp.qc8,h1]
 by_cases h2:(f.blocks.length:Int)<=e.block
 ·simp[Sp.qc8,h1,h2]
 simp(maxSteps:=1000000) (disch:=((try dsimp only);omega)) only[↓gsA,gsB]
 cases h3:Sp.used f e.args known with
 |false=>simp[Sp.qc8,h3]
 |true=>
  simp(maxSteps:=1000000) (disch:=((try dsimp only);omega)) only[↓gsA,gsB]
  by_cases h4:(((f.blocks.getD e.block.toNat Block.z).params.length:Nat):Int)=e.args.length
  rotate_left
  ·rw[if_neg h4];simp only[Sp.qc8];rw[show decide (((f.blk e.block.toNat).params.length:Int)=e.args.length)=false from decide_eq_false h4];simp
  rw[if_pos h4];have hp:(f.blocks.getD e.block.toNat Block.z).params.length<=LEN:=(Fn.q6m hf (by omega)).1.len;rw[qc6]at hp;have hEnd:Sp.qc8 f e known=(List.range (f.blk e.block.toNat).params.length).all (Sp.qsg f (f.blk e.block.toNat).params e.args):=by
   simp only[Sp.qc8,h3];rw[decide_eq_false h1,decide_eq_false h2,decide_eq_true h4];rfl
  rw[hEnd];show _=some ((List.range (f.blocks.getD e.block.toNat Block.z).params.length).all (Sp.qsg f (f.blocks.getD e.block.toNat Block.z).params e.args),());generalize (f.blocks.getD e.block.toNat Block.z).params=ps at *;refine qbj (qbg (l:=List.range ps.length) (st:=fun i=>(((),(),ps,(i:Int),()),f,e,())) rfl 0 (Sp.qsg f ps e.args) (A:=.inl ((),())) (B:=.inr ((false,()),())) (fun i hi hq=>?_) (fun i hi hq=>?_) (fun _=>?_)) ?_
  ·rw[zhd]at hi;rw[qa7 hi]at hq;simp only[Sp.qsg,zgz,decide_eq_true_eq]at hq;obtain⟨q1,q2⟩:=hq;obtain⟨q3,q4⟩:=within_iff.1 q1;obtain⟨g3,g4,-⟩:=qf7 h3 (i:=i) (by omega);simp(maxSteps:=1000000) (disch:=((try dsimp only);omega)) only[↓gsA,gsB]
   rw[q1];simp(maxSteps:=1000000) (disch:=((try dsimp only);omega)) only[↓gsA,gsB]
  ·rw[zhd]at hi;rw[qa7 hi]at hq;simp only[Sp.qsg,Bool.and_eq_false_iff,decide_eq_false_iff_not]at hq;obtain⟨g3,g4,-⟩:=qf7 h3 (i:=i) (by omega);simp(maxSteps:=1000000) (disch:=((try dsimp only);omega)) only[↓gsA,gsB]
   cases q1:Sp.within f (ps.getD i 0)with
   |false=>rfl
   |true=>
    obtain⟨q3,q4⟩:=within_iff.1 q1;rw[q1]at hq;have hq:=hq.resolve_left (by simp);simp(maxSteps:=1000000) (disch:=((try dsimp only);omega)) only[↓gsA,gsB]
  ·rw[zhd];simp(maxSteps:=1000000) (disch:=((try dsimp only);omega)) only[↓gsA,gsB]
  ·cases(List.range ps.length).all (Sp.qsg f ps e.args)<;>rfl
def c95:Ctr Try.prog:=qcn 95 Try.f95 Try.func95 [c47,c48] ann95 [(0,(.st 6)),(1,(.st 1)),(2,(.fz .bool))] [] .b [] (fun x _=>grd (okB (x.1.ok/\x.2.1.ok/\x.2.2.1.length=x.1.qab.length)) (some (Sp.qc8 x.1 x.2.1 x.2.2.1,()))) (fun x _ r h=>FO (run95 x.1 x.2.1 x.2.2.1) (ok95 x.1 x.2.1 x.2.2.1) h)
end
end Go.Abs
namespace Go.Abs
open Go Go.Proofs
noncomputable section
def ann45:Ann:=(.seq .o (.seq .o (.join sh31 (.seq .o (.block (.loop sh32 [((.exit 0),sh31),(.ret,sh21)] (.join sh32 (.seq .o (.cond .o .o)) (.join sh32 (.block (.seq .o (.seq .o (.join ⟨sh67,sh68⟩ (.seq .o (.cond (.seq .o .o) .o)) (.seq .o (.block (.join ⟨[(1,(.ptr 0 0)),(3,(.full 1)),(4,(.i .i64)),(5,(.ptr 2 0)),(41,(.i .i64)),(42,.b)],sh68⟩ (.seq .o (.cond .o .o)) (.cond (.seq .o (.cond (.seq .o .o) .o)) (.join ⟨[(1,(.ptr 0 0)),(3,(.full 1)),(4,(.i .i64)),(5,(.ptr 2 0)),(58,.b)],sh68⟩ (.seq .o (.cond .o .o)) (.cond (.seq .o (.cond (.seq .o .o) .o)) (.seq .o .o))))))))))) .o))))) (.join sh31 (.seq .o (.block (.loop sh33 [((.exit 3),sh31),(.ret,sh21)] (.join sh33 (.seq .o (.cond .o .o)) (.join sh33 (.block (.seq .o (.seq .o (.cond (.seq .o .o) .o)))) .o))))) (.join sh34 (.seq .o (.block (.loop sh35 [((.exit 5),sh34),(.ret,sh21)] (.join sh35 (.seq .o (.cond .o .o)) (.join sh35 (.block (.join sh35 (.seq .o (.cond (.seq .o .o) .o)) (.seq .o (.block (.loop sh36 [((.exit 7),sh35),(.ret,sh21)] (.join sh36 (.seq .o (.cond .o .o)) (.join sh36 (.block (.seq .o (.cond (.seq .o .o) .o))) .o))))))) .o))))) (.seq .o .o))))))
def go45_l4:(ty7×(Fn×((List ByteArray)×Unit)))->Option ((ty7×(Fn×((List ByteArray)×Unit)))⊕(ty6⊕((Bool×Unit)×Unit))):=(fun r2=>(bif(decide (r2.1.2.2.2.1<r2.1.2.2.1))then(grd (okB ((0<=r2.1.2.2.2.1)/\(r2.1.2.2.2.1<(r2.2.2.1.length:Int)))) (grd (Nat.blt r2.1.2.2.2.1.toNat r2.2.2.1.length) (grd (okB ((0<=r2.1.2.2.1)/\(r2.1.2.2.1<(r2.2.2.1.length:Int)))) (grd (Nat.blt r2.1.2.2.1.toNat r2.2.2.1.length) (bif((ByteArray.toList (r2.2.2.1.getD r2.1.2.2.2.1.toNat ByteArray.empty))==(ByteArray.toList (r2.2.2.1.getD r2.1.2.2.1.toNat ByteArray.empty)))then(some (Sum.inr (Sum.inr ((false,()),()))))else(grd (okB (((-9223372036854775808)<=(r2.1.2.2.2.1+1))/\((r2.1.2.2.2.1+1)<=9223372036854775807))) (some (Sum.inl (((),((),(r2.1.2.2.1,((r2.1.2.2.2.1+1),())))),(r2.2.1,(r2.2.2.1,())))))))))))else(some (Sum.inr (Sum.inl (((),((),(r2.1.2.2.1,()))),(r2.2.1,(r2.2.2.1,()))))))))
def go45_l3:ty6->Option (ty6⊕(((Unit×Unit)×(Fn×Unit))⊕((Bool×Unit)×Unit))):=(fun r0=>(bif(decide (r0.1.2.2.1<(r0.2.2.1.length:Int)))then(grd (okB ((0<=r0.1.2.2.1)/\(r0.1.2.2.1<(r0.2.2.1.length:Int)))) (grd (Nat.blt r0.1.2.2.1.toNat r0.2.2.1.length) (qak (grd (okB ((ByteArray.size (r0.2.2.1.getD r0.1.2.2.1.toNat ByteArray.empty))<=9223372036854775807)) (some ((Sp.ident (r0.2.2.1.getD r0.1.2.2.1.toNat ByteArray.empty)),()))) (fun r1=>(bif(!r1.1)then(some (Sum.inr (Sum.inr ((false,()),()))))else(qak (qap (go45_l4) (((),((),(r0.1.2.2.1,(0,())))),(r0.2.1,(r0.2.2.1,())))) (fun z4=>(qjo (fun z5=>(grd (okB (((-9223372036854775808)<=(z5.1.2.2.1+1))/\((z5.1.2.2.1+1)<=9223372036854775807))) (some (Sum.inl (((),((),((z5.1.2.2.1+1),()))),(z5.2.1,(z5.2.2.1,()))))))) (fun z5=>(some (Sum.inr (Sum.inr ((z5.1.1,()),()))))) z4))))))))else(some (Sum.inr (Sum.inl (((),()),(r0.2.1,())))))))
def go45_l2:ty6->Option ty2:=(fun r0=>(bif(decide (r0.1.2.2.1<(r0.2.1.streams.length:Int)))then(grd (okB ((0<=r0.1.2.2.1)/\(r0.1.2.2.1<(r0.2.1.streams.length:Int)))) (grd (okB ((((r0.2.2.1.length+1)*16)<=140737488355328)/\((r0.2.2.1.length+1)<=281474976710656))) (grd (okB ((0<=r0.1.2.2.1)/\(r0.1.2.2.1<(r0.2.1.streams.length:Int)))) (bif(!(Sp.right (r0.2.1.streams.getD r0.1.2.2.1.toNat qbp.z).width))then(some (Sum.inr (Sum.inr ((false,()),()))))else(grd (okB (((-9223372036854775808)<=(r0.1.2.2.1+1))/\((r0.1.2.2.1+1)<=9223372036854775807))) (some (Sum.inl (((),((),((r0.1.2.2.1+1),()))),(r0.2.1,((r0.2.2.1++((r0.2.1.streams.getD r0.1.2.2.1.toNat qbp.z).name::([]:List ByteArray))),()))))))))))else(some (Sum.inr (Sum.inl (((),((),())),(r0.2.1,(r0.2.2.1,()))))))))
def go45_j3(j0:(ty6->(Option ty2))):((Unit×(Unit×(Int×(Unit×(Bool×Unit)))))×(Fn×((List ByteArray)×(Arr×Unit))))->Option ty2:=(fun z1=>(bif z1.1.2.2.2.2.1 then(bif(decide (z1.2.2.2.1.factor<1))then(some (Sum.inr (Sum.inr ((false,()),()))))else(bif(decide ((if(64<z1.2.2.2.1.len)then 64 else z1.2.2.2.1.len)<z1.2.2.2.1.factor))then(some (Sum.inr (Sum.inr ((false,()),()))))else(j0 (((),((),(z1.1.2.2.1,()))),(z1.2.1,(z1.2.2.1,()))))))else(some (Sum.inr (Sum.inr ((false,()),()))))))
def go45_j2(j0:(ty6->(Option ty2))):((Unit×(Unit×(Int×(Unit×(Int×(Bool×Unit))))))×(Fn×((List ByteArray)×(Arr×Unit))))->Option ty2:=(fun z0=>(bif z0.1.2.2.2.2.2.1 then(bif(!(decide (z0.2.2.2.1.factor=0)))then(some (Sum.inr (Sum.inr ((false,()),()))))else(bif(decide (z0.2.2.2.1.kind=3))then(bif(decide (64<z0.2.2.2.1.len))then(some (Sum.inr (Sum.inr ((false,()),()))))else(j0 (((),((),(z0.1.2.2.1,()))),(z0.2.1,(z0.2.2.1,())))))else(j0 (((),((),(z0.1.2.2.1,()))),(z0.2.1,(z0.2.2.1,()))))))else(jpO (go45_j3 j0) (fun j1=>(bif(decide (z0.1.2.2.2.2.1=1))then(j1 (((),((),(z0.1.2.2.1,((),(true,()))))),(z0.2.1,(z0.2.2.1,(z0.2.2.2.1,())))))else(j1 (((),((),(z0.1.2.2.1,((),((decide (z0.1.2.2.2.2.1=2)),()))))),(z0.2.1,(z0.2.2.1,(z0.2.2.2.1,()))))))))))
def go45_j1:ty6->Option ty2:=(fun z0=>(grd (okB (((-9223372036854775808)<=(z0.1.2.2.1+1))/\((z0.1.2.2.1+1)<=9223372036854775807))) (some (Sum.inl (((),((),((z0.1.2.2.1+1),()))),(z0.2.1,(z0.2.2.1,())))))))
def go45_l1:ty6->Option ty2:=(fun r0=>(bif(decide (r0.1.2.2.1<(r0.2.1.qao.length:Int)))then(jpO (go45_j1) (fun j0=>(grd (okB ((0<=r0.1.2.2.1)/\(r0.1.2.2.1<(r0.2.1.qao.length:Int)))) (grd (okB ((((r0.2.2.1.length+1)*16)<=140737488355328)/\((r0.2.2.1.length+1)<=281474976710656))) (bif(!(Sp.right (r0.2.1.qao.getD r0.1.2.2.1.toNat Arr.z).width))then(some (Sum.inr (Sum.inr ((false,()),()))))else(bif(decide ((r0.2.1.qao.getD r0.1.2.2.1.toNat Arr.z).len<1))then(some (Sum.inr (Sum.inr ((false,()),()))))else(bif(decide (4096<(r0.2.1.qao.getD r0.1.2.2.1.toNat Arr.z).len))then(some (Sum.inr (Sum.inr ((false,()),()))))else(jpO (go45_j2 j0) (fun j1=>(bif(decide ((r0.2.1.qao.getD r0.1.2.2.1.toNat Arr.z).kind=0))then(j1 (((),((),(r0.1.2.2.1,((),((r0.2.1.qao.getD r0.1.2.2.1.toNat Arr.z).kind,(true,())))))),(r0.2.1,((r0.2.2.1++((r0.2.1.qao.getD r0.1.2.2.1.toNat Arr.z).name::([]:List ByteArray))),((r0.2.1.qao.getD r0.1.2.2.1.toNat Arr.z),())))))else(j1 (((),((),(r0.1.2.2.1,((),((r0.2.1.qao.getD r0.1.2.2.1.toNat Arr.z).kind,((decide ((r0.2.1.qao.getD r0.1.2.2.1.toNat Arr.z).kind=3)),())))))),(r0.2.1,((r0.2.2.1++((r0.2.1.qao.getD r0.1.2.2.1.toNat Arr.z).name::([]:List ByteArray))),((r0.2.1.qao.getD r0.1.2.2.1.toNat Arr.z),())))))))))))))))else(some (Sum.inr (Sum.inl (((),((),())),(r0.2.1,(r0.2.2.1,()))))))))
def go45(x0:Fn):(Option (Bool×Unit)):=(qak (qap (go45_l1) (((),((),(0,()))),(x0,(([]:List ByteArray),())))) (fun z0=>(qjo (fun z1=>(qak (qap (go45_l2) (((),((),(0,()))),(z1.2.1,(z1.2.2.1,())))) (fun z2=>(qjo (fun z3=>(qak (qap (go45_l3) (((),((),(0,()))),(z3.2.1,(z3.2.2.1,())))) (fun z4=>(qjo (fun z5=>(bif(decide ((z5.2.1.qao.length:Int)<=64))then(some ((decide ((z5.2.1.streams.length:Int)<=64)),()))else(some (false,())))) (fun z5=>(some (z5.1.1,()))) z4)))) (fun z3=>(some (z3.1.1,()))) z2)))) (fun z1=>(some (z1.1.1,()))) z0)))
theorem run45(x0:Fn):qei (P:=Try.prog) [c44,c92] Try.f45 ann45 [(0,(.st 6))] [] .b [] (x0,()) ()=go45 x0:=by kernel_rfl
def Sp.q0t(a:Arr):Bool:=
 if a.kind=0\/a.kind=3 then decide (a.factor=0)&&!(decide (a.kind=3)&&decide (64<a.len))
 else if a.kind=1\/a.kind=2 then !decide (a.factor<1)&&!decide ((if 64<a.len then 64 else a.len)<a.factor)else false
def Sp.qxr(a:Arr):Bool:=(Sp.right a.width&&!decide (a.len<1)&&!decide (4096<a.len))&&Sp.q0t a
def Fn.names(f:Fn):List ByteArray:=f.qao.map Arr.name++f.streams.map qbp.name
def nameAt(l:List ByteArray)(i:Nat):ByteArray:=l.getD i ByteArray.empty
def Sp.qoi(l:List ByteArray)(i:Nat):Bool:=Sp.ident (nameAt l i)&&(List.range i).all fun k=>!((nameAt l k).toList==(nameAt l i).toList)
def Sp.qpz(f:Fn):Bool:=f.qao.all Sp.qxr&&(f.streams.all (fun s=>Sp.right s.width)&&((List.range f.names.length).all (Sp.qoi f.names)&&(decide ((f.qao.length:Int)<=64)&&decide ((f.streams.length:Int)<=64))))
abbrev qhd(f:Fn)(i:Nat):List ByteArray:=(f.qao.take i).map Arr.name
abbrev qfc(f:Fn)(i:Nat):List ByteArray:=f.qao.map Arr.name++(f.streams.take i).map qbp.name
theorem qsv{β:Type}(a:Arr)(A B:β):(bif Sp.right a.width then if a.len<1 then B else if 4096<a.len then B else if a.kind=0 then(if a.factor=0 then A else B)else if a.kind=3 then(if a.factor=0 then if 64<a.len then B else A else B)
   else if a.kind=1 then(if a.factor<1 then B else if(if 64<a.len then 64 else a.len)<a.factor then B else A)else if a.kind=2 then(if a.factor<1 then B else if(if 64<a.len then 64 else a.len)<a.factor then B else A)else B else B)=if Sp.qxr a=true then A else B:=by
 unfold Sp.qxr Sp.q0t;cases Sp.right a.width
 ·simp
 ·simp only[cond_true,zip]
  grind
theorem qoh{f:Fn}{i:Nat}(hi:i<f.names.length)(hnl:f.names.length<=281474976710656):qap go45_l4
  (((),(),(i:Int),0,()),f,f.names,())=some (if(List.range i).all (fun k=>!((f.names.getD k ByteArray.empty).toList==(f.names.getD i ByteArray.empty).toList))then .inl (((),(),(i:Int),()),f,f.names,())else .inr ((false,()),())):=by
 unfold go45_l4;refine qbg (l:=List.range i) (st:=fun k=>(((),(),(i:Int),(k:Int),()),f,f.names,())) rfl 0 (fun k=>!((f.names.getD k ByteArray.empty).toList==(f.names.getD i ByteArray.empty).toList)) (fun k hk hp=>?_) (fun k hk hp=>?_) (fun _=>?_)
 ·rw[zhd]at hk;rw[qa7 hk]at hp;simp(maxSteps:=1000000) (disch:=((try dsimp only);omega)) only[↓gsA,gsB]
  rw[zhn]at hp;rw[hp];simp(maxSteps:=1000000) (disch:=((try dsimp only);omega)) only[↓gsA,gsB]
 ·rw[zhd]at hk;rw[qa7 hk]at hp;simp(maxSteps:=1000000) (disch:=((try dsimp only);omega)) only[↓gsA,gsB]
  rw[Bool.not_eq_false']at hp;rw[hp];simp(maxSteps:=1000000) (disch:=((try dsimp only);omega)) only[↓gsA,gsB]
 ·rw[zhd];simp(maxSteps:=1000000) (disch:=((try dsimp only);omega)) only[↓gsA,gsB]
theorem que(f:Fn)(hf:f.ok):qap go45_l1 (((),(),0,()),f,[],())=some (if f.qao.all Sp.qxr then .inl (((),(),()),f,qhd f f.qao.length,())else .inr ((false,()),())):=by
 have ha:f.qao.length*48<=140737488351232:=hf.2.2.1.1;unfold go45_l1 go45_j1 go45_j2 go45_j3;refine qbg (l:=f.qao) (st:=fun i=>(((),(),(i:Int),()),f,qhd f i,())) rfl Arr.z Sp.qxr (fun i hi hp=>?_) (fun i hi hp=>?_) (fun _=>?_)
 ·have hlen:(qhd f i).length=i:=by simp only[qhd,zha,List.length_take];omega
  have hnx:qhd f (i+1)=qhd f i++[(f.qao.getD i Arr.z).name]:=by
   simp only[qhd];rw[List.take_succ_eq_append_getElem hi,zix];simp[hi]
  simp(maxSteps:=1000000) (disch:=((try dsimp only);omega)) only[↓gsA,gsB]
  rw[hnx];exact(qsv _ _ _).trans (if_pos hp)
 ·have hlen:(qhd f i).length=i:=by simp only[qhd,zha,List.length_take];omega
  simp(maxSteps:=1000000) (disch:=((try dsimp only);omega)) only[↓gsA,gsB]
  exact(qsv _ _ _).trans (if_neg (by rw[hp];simp))
 ·simp(maxSteps:=1000000) (disch:=((try dsimp only);omega)) only[↓gsA,gsB]
theorem qq4(f:Fn)(hf:f.ok):qap go45_l2 (((),(),0,()),f,qfc f 0,())=some (if f.streams.all (fun s=>Sp.right s.width)then .inl (((),(),()),f,qfc f f.streams.length,())else .inr ((false,()),())):=by
 have ha:f.qao.length*48<=140737488351232:=hf.2.2.1.1;have hs:f.streams.length*32<=140737488351232:=hf.2.2.2.1.1;unfold go45_l2;refine qbg (l:=f.streams) (st:=fun i=>(((),(),(i:Int),()),f,qfc f i,())) rfl qbp.z (fun s=>Sp.right s.width) (fun i hi hp=>?_) (fun i hi hp=>?_) (fun _=>?_)
 ·have hlen:(qfc f i).length=f.qao.length+i:=by simp only[qfc,zg6,zha,List.length_take];omega
  have hnx:qfc f (i+1)=qfc f i++[(f.streams.getD i qbp.z).name]:=by
   simp only[qfc];rw[show f.streams.take (i+1)=f.streams.take i++[f.streams.getD i qbp.z]by rw[List.take_succ_eq_append_getElem hi];simp[zg0,hi],zix,zib]
   rfl
  simp(maxSteps:=1000000) (disch:=((try dsimp only);omega)) only[↓gsA,gsB]
  rw[hp,hnx];simp(maxSteps:=1000000) (disch:=((try dsimp only);omega)) only[↓gsA,gsB]
 ·have hlen:(qfc f i).length=f.qao.length+i:=by simp only[qfc,zg6,zha,List.length_take];omega
  simp(maxSteps:=1000000) (disch:=((try dsimp only);omega)) only[↓gsA,gsB]
  rw[hp];rfl
 ·simp(maxSteps:=1000000) (disch:=((try dsimp only);omega)) only[↓gsA,gsB]
theorem q4j{f:Fn}(hf:f.ok):f.names.length<=281474976710656/\∀i,i<f.names.length->(f.names.getD i ByteArray.empty).size<=9223372036854775807:=by
 have ha:f.qao.length*48<=140737488351232:=hf.2.2.1.1;have hs:f.streams.length*32<=140737488351232:=hf.2.2.2.1.1;refine⟨by simp only[Fn.names,zg6,zha];omega,fun i hi=>?_⟩
 have hm:f.names.getD i ByteArray.empty∈f.names:=by simp[zg0,hi]
 rcases zhj.1 (show f.names.getD i ByteArray.empty∈f.qao.map Arr.name++f.streams.map qbp.name from hm)with h|h
 all_goals obtain⟨x,hx,e⟩:=zhk.1 h
 ·rw[<- e];exact(hf.2.2.1.2 x hx).1
 ·rw[<- e];exact(hf.2.2.2.1.2 x hx).1
theorem qny(f:Fn)(hf:f.ok):qap go45_l3 (((),(),0,()),f,f.names,())=some (if(List.range f.names.length).all (Sp.qoi f.names)then .inl (((),()),f,())else .inr ((false,()),())):=by
 obtain⟨hnl,hstr⟩:=q4j hf;unfold go45_l3;refine qbg (l:=List.range f.names.length) (st:=fun i=>(((),(),(i:Int),()),f,f.names,())) rfl 0 (Sp.qoi f.names) (fun i hi hp=>?_) (fun i hi hp=>?_) (fun _=>?_)
 ·rw[zhd]at hi;rw[qa7 hi]at hp;simp only[Sp.qoi,nameAt,zgz]at hp;simp(maxSteps:=1000000) (disch:=((try dsimp only);omega)) only[↓gsA,gsB]
  rw[qas (hstr i hi),hp.1];simp(maxSteps:=1000000) (disch:=((try dsimp only);omega)) only[↓gsA,gsB]
  refine qbj (qoh hi hnl) ?_;rw[if_pos hp.2];simp(maxSteps:=1000000) (disch:=((try dsimp only);omega)) only[↓gsA,gsB]
 ·rw[zhd]at hi;rw[qa7 hi]at hp;simp only[Sp.qoi,nameAt,Bool.and_eq_false_iff]at hp;simp(maxSteps:=1000000) (disch:=((try dsimp only);omega)) only[↓gsA,gsB]
  rw[qas (hstr i hi)];cases hid:Sp.ident (f.names.getD i ByteArray.empty)with
  |false=>rfl
  |true=>
   rw[hid]at hp;have hp:=hp.resolve_left (by simp);simp(maxSteps:=1000000) (disch:=((try dsimp only);omega)) only[↓gsA,gsB]
   refine qbj (qoh hi hnl) ?_;rw[if_neg (by rw[hp];simp)]
   simp(maxSteps:=1000000) (disch:=((try dsimp only);omega)) only[↓gsA,gsB]
 ·rw[zhd];simp(maxSteps:=1000000) (disch:=((try dsimp only);omega)) only[↓gsA,gsB]
theorem ok45(f:Fn)(hf:f.ok):go45 f=some (Sp.qpz f,()):=by
 unfold go45;refine qbj (que f hf) ?_;cases hall:f.qao.all Sp.qxr with
 |false=>simp[Sp.qpz,hall]
 |true=>
  rw[if_pos rfl];simp(maxSteps:=1000000) (disch:=((try dsimp only);omega)) only[↓gsA,gsB]
  rw[show qhd f f.qao.length=qfc f 0 by simp[qhd,qfc]];refine qbj (qq4 f hf) ?_;cases hall2:f.streams.all (fun s=>Sp.right s.width)with
  |false=>simp[Sp.qpz,hall2]
  |true=>
   rw[if_pos rfl];simp(maxSteps:=1000000) (disch:=((try dsimp only);omega)) only[↓gsA,gsB]
   rw[show qfc f f.streams.length=f.names by simp[Fn.names,qfc]];refine qbj (qny f hf) ?_;cases hall3:(List.range f.names.length).all (Sp.qoi f.names)with
   |false=>simp[Sp.qpz,hall3]
   |true=>
    rw[if_pos rfl];simp(maxSteps:=1000000) (disch:=((try dsimp only);omega)) only[↓gsA,gsB]
    simp only[Sp.qpz,hall,hall2,hall3,zip];by_cases h:(f.qao.length:Int)<=64<;>simp[h]
def c45:Ctr Try.prog:=qcn 45 Try.f45 Try.func45 [c44,c92] ann45 [(0,(.st 6))] [] .b [] (fun x _=>grd (okB x.1.ok) (some (Sp.qpz x.1,()))) (fun x _ r h=>FO (run45 x.1) (ok45 x.1) h)
end
end Go.Abs
namespace Go.Abs
open Go Go.Proofs
noncomputable section
def ann51:Ann:=(.seq .o (.seq .o (.join sh37 (.seq .o (.block (.seq .o (.cond .o (.seq .o (.cond .o (.seq .o (.cond (.join sh37 (.seq .o (.cond (.seq .o .o) .o)) (.seq .o (.block (.loop sh38 [((.exit 1),sh37),(.ret,⟨[(6,.b)],[]⟩)] (.join sh38 (.seq .o (.cond .o .o)) (.join sh38 (.block (.seq .o (.cond (.seq .o .o) .o))) .o)))))) (.seq .o .o))))))))) (.join sh39 (.seq .o (.cond (.seq .o .o) .o)) (.join sh39 (.seq .o (.cond (.seq .o (.cond (.seq .o .o) .o)) (.seq .o (.cond (.seq .o .o) .o)))) (.join ⟨[],[]⟩ (.seq .o (.block (.loop sh40 [((.exit 3),⟨[],[]⟩),(.ret,⟨[(6,.b)],[]⟩)] (.join sh40 (.seq .o (.cond .o .o)) (.join sh40 (.block (.seq .o (.cond (.seq .o .o) .o))) .o))))) (.seq .o .o)))))))
def go51_l2:(((List Bool)×ty7)×(Fn×(Term×Unit)))->Option ((((List Bool)×ty7)×(Fn×(Term×Unit)))⊕(ty12⊕((Bool×Unit)×Unit))):=(fun r1=>(bif(decide (r1.1.2.2.2.2.1<(r1.2.2.1.qa4.length:Int)))then(grd (okB ((0<=r1.1.2.2.2.2.1)/\(r1.1.2.2.2.2.1<(r1.2.2.1.qa4.length:Int)))) (grd (okB ((0<=(r1.2.2.1.qa4.getD r1.1.2.2.2.2.1.toNat 0))/\((r1.2.2.1.qa4.getD r1.1.2.2.2.2.1.toNat 0)<(r1.2.1.qab.length:Int)))) (grd (okB ((0<=r1.1.2.2.2.2.1)/\(r1.1.2.2.2.2.1<(r1.2.1.qa4.length:Int)))) (bif(!(decide ((r1.2.1.qab.getD (r1.2.2.1.qa4.getD r1.1.2.2.2.2.1.toNat 0).toNat 0)=(r1.2.1.qa4.getD r1.1.2.2.2.2.1.toNat 0))))then(some (Sum.inr (Sum.inr ((false,()),()))))else(grd (okB (((-9223372036854775808)<=(r1.1.2.2.2.2.1+1))/\((r1.1.2.2.2.2.1+1)<=9223372036854775807))) (some (Sum.inl ((r1.1.1,((),((),(r1.1.2.2.2.1,((r1.1.2.2.2.2.1+1),()))))),(r1.2.1,(r1.2.2.1,()))))))))))else(some (Sum.inr (Sum.inl ((r1.1.1,((),((),(r1.1.2.2.2.1,())))),(r1.2.1,(r1.2.2.1,()))))))))
def go51_l1:ty12->Option (ty12⊕ty8):=(fun r0=>(bif(decide (r0.1.2.2.2.1<(r0.2.2.1.to.length:Int)))then(grd (okB ((0<=r0.1.2.2.2.1)/\(r0.1.2.2.2.1<(r0.2.2.1.to.length:Int)))) (qak (grd (okB ((Fn.ok r0.2.1)/\((Edge.ok (r0.2.2.1.to.getD r0.1.2.2.2.1.toNat Edge.z))/\(r0.1.1.length=r0.2.1.qab.length)))) (some ((Sp.qc8 r0.2.1 (r0.2.2.1.to.getD r0.1.2.2.2.1.toNat Edge.z) r0.1.1),()))) (fun r1=>(bif(!r1.1)then(some (Sum.inr (Sum.inr ((false,()),()))))else(grd (okB (((-9223372036854775808)<=(r0.1.2.2.2.1+1))/\((r0.1.2.2.2.1+1)<=9223372036854775807))) (some (Sum.inl ((r0.1.1,((),((),((r0.1.2.2.2.1+1),())))),(r0.2.1,(r0.2.2.1,()))))))))))else(some (Sum.inr (Sum.inl ((),()))))))
def go51_j3:(((List Bool)×(Unit×(Unit×Unit)))×(Fn×(Term×Unit)))->Option (Bool×Unit):=(fun z2=>(qak (qap (go51_l1) ((z2.1.1,((),((),(0,())))),(z2.2.1,(z2.2.2.1,())))) (fun z3=>(qjo (fun z4=>(some (true,()))) (fun z4=>(some (z4.1.1,()))) z3))))
def go51_j2:(((List Bool)×(Unit×(Unit×Unit)))×(Fn×(Term×Unit)))->Option (Bool×Unit):=(fun z1=>(jpO (go51_j3) (fun j0=>(bif(decide (z1.2.2.1.kind=2))then(qak (grd (okB ((1<=LEN)/\(z1.1.1.length=z1.2.1.qab.length))) (some ((Sp.used z1.2.1 (z1.2.2.1.cond::([]:List Int)) z1.1.1),()))) (fun r0=>(bif(!r0.1)then(some (false,()))else(grd (okB ((0<=z1.2.2.1.cond)/\(z1.2.2.1.cond<(z1.2.1.qab.length:Int)))) (bif(!(decide ((z1.2.1.qab.getD z1.2.2.1.cond.toNat 0)=1)))then(some (false,()))else(j0 ((z1.1.1,((),((),()))),(z1.2.1,(z1.2.2.1,())))))))))else(bif(!(decide (z1.2.2.1.cond=(-1))))then(some (false,()))else(j0 ((z1.1.1,((),((),()))),(z1.2.1,(z1.2.2.1,())))))))))
def go51_j1:ty12->Option (Bool×Unit):=(fun z0=>(jpO (go51_j2) (fun j0=>(bif(!(decide ((z0.2.2.1.to.length:Int)=z0.1.2.2.2.1)))then(some (false,()))else(bif(!(decide (z0.2.2.1.kind=3)))then(bif(decide (0<(z0.2.2.1.qa4.length:Int)))then(some (false,()))else(j0 ((z0.1.1,((),((),()))),(z0.2.1,(z0.2.2.1,())))))else(j0 ((z0.1.1,((),((),()))),(z0.2.1,(z0.2.2.1,())))))))))
def go51(x0:Fn)(x1:Term)(x2:(List Bool)):(Option (Bool×Unit)):=(jpO (go51_j1) (fun j0=>(bif(decide (x1.kind=1))then(j0 ((x2,((),((),(1,())))),(x0,(x1,()))))else(bif(decide (x1.kind=2))then(j0 ((x2,((),((),(2,())))),(x0,(x1,()))))else(bif(decide (x1.kind=3))then(bif(!(decide ((x1.qa4.length:Int)=(x0.qa4.length:Int))))then(some (false,()))else(qak (grd (okB ((x1.qa4.length<=LEN)/\(x2.length=x0.qab.length))) (some ((Sp.used x0 x1.qa4 x2),()))) (fun r0=>(bif(!r0.1)then(some (false,()))else(qak (qap (go51_l2) ((x2,((),((),(0,(0,()))))),(x0,(x1,())))) (fun z0=>(qjo (fun z1=>(j0 ((z1.1.1,((),((),(z1.1.2.2.2.1,())))),(z1.2.1,(z1.2.2.1,()))))) (fun z1=>(some (z1.1.1,()))) z0)))))))else(some (false,())))))))
theorem run51(x0:Fn)(x1:Term)(x2:(List Bool)):qei (P:=Try.prog) [c48,c95] Try.f51 ann51 [(0,(.st 6)),(1,(.st 2)),(2,(.fz .bool))] [] .b [] (x0,(x1,(x2,()))) ()=go51 x0 x1 x2:=by kernel_rfl
def Sp.zbt(f:Fn)(qa4:List Int)(i:Nat):Bool:=decide (f.qab.getD (qa4.getD i 0).toNat 0=f.qa4.getD i 0)
def Sp.kindOk(f:Fn)(t:Term)(known:List Bool):Bool:=
 if t.kind=1\/t.kind=2 then true else if t.kind=3 then decide ((t.qa4.length:Int)=f.qa4.length)&&Sp.used f t.qa4 known&&(List.range t.qa4.length).all (Sp.zbt f t.qa4)else false
def Sp.qeq(k:Int):Int:=if k=1 then 1 else if k=2 then 2 else 0
def Sp.qo0(f:Fn)(t:Term)(known:List Bool):Bool:=
 if t.kind=2 then Sp.used f [t.cond] known&&decide (f.qab.getD t.cond.toNat 0=1)else decide (t.cond=-1)
def Sp.qdl(f:Fn)(t:Term)(known:List Bool):Bool:=
 Sp.kindOk f t known&&(decide ((t.to.length:Int)=Sp.qeq t.kind)&&(decide (t.kind=3)||decide ((t.qa4.length:Int)<=0)))&&Sp.qo0 f t known&&t.to.all (fun e=>Sp.qc8 f e known)
section
variable {f:Fn} {t:Term} {known:List Bool}
theorem ze5(hf:f.ok)(ht:t.ok)(hk:known.length=f.qab.length):go51_j3 ((known,(),(),()),f,t,())=some (t.to.all (fun e=>Sp.qc8 f e known),()):=by
 have htt:t.to.length<=LEN:=ht.2.2.1.len;rw[qc6]at htt;unfold go51_j3 go51_l1;refine qbj (qbg (l:=t.to) (st:=fun i=>((known,(),(),(i:Int),()),f,t,())) rfl Edge.z (fun e=>Sp.qc8 f e known) (A:=.inl ((),())) (B:=.inr ((false,()),())) (fun i hi hp=>?_) (fun i hi hp=>?_) (fun _=>?_)) ?_
 ·have he:(t.to.getD i Edge.z).ok:=qic ht.2.2.1 _ hi;simp(maxSteps:=1000000) (disch:=((try dsimp only);omega)) only[↓gsA,gsB]
  rw[qas ⟨hf,he,hk⟩,hp];simp(maxSteps:=1000000) (disch:=((try dsimp only);omega)) only[↓gsA,gsB]
 ·have he:(t.to.getD i Edge.z).ok:=qic ht.2.2.1 _ hi;simp(maxSteps:=1000000) (disch:=((try dsimp only);omega)) only[↓gsA,gsB]
  rw[qas ⟨hf,he,hk⟩,hp];rfl
 ·simp(maxSteps:=1000000) (disch:=((try dsimp only);omega)) only[↓gsA,gsB]
 ·cases t.to.all (fun e=>Sp.qc8 f e known)<;>rfl
theorem ze7(hf:f.ok)(ht:t.ok)(hk:known.length=f.qab.length):go51_j2 ((known,(),(),()),f,t,())=some (Sp.qo0 f t known&&t.to.all (fun e=>Sp.qc8 f e known),()):=by
 unfold go51_j2 Sp.qo0;simp(maxSteps:=1000000) (disch:=((try dsimp only);omega)) only[↓gsA,gsB]
 rw[ze5 hf ht hk];by_cases h:t.kind=2
 ·rw[if_pos h,if_pos h,qas ⟨by simp[LEN],hk⟩];cases hu:Sp.used f [t.cond] known with
  |false=>rfl
  |true=>
   have h2:=qf7 hu (i:=0) (by simp);simp only[List.getD_cons_zero]at h2;obtain⟨h2,h3,-⟩:=h2;simp(maxSteps:=1000000) (disch:=((try dsimp only);omega)) only[↓gsA,gsB]
   by_cases h4:f.qab.getD t.cond.toNat 0=1
   ·rw[if_pos h4,decide_eq_true h4];rfl
   ·rw[if_neg h4,decide_eq_false h4];rfl
 ·rw[if_neg h,if_neg h];by_cases h4:t.cond=-1
  ·rw[if_pos h4,decide_eq_true h4];rfl
  ·rw[if_neg h4,decide_eq_false h4];rfl
theorem zcb(hf:f.ok)(ht:t.ok)(hk:known.length=f.qab.length)(z:Int):go51_j1 ((known,(),(),z,()),f,t,()) =
  some ((decide ((t.to.length:Int)=z)&&(decide (t.kind=3)||decide ((t.qa4.length:Int)<=0)))&&Sp.qo0 f t known&&t.to.all (fun e=>Sp.qc8 f e known),()):=by
 unfold go51_j1;simp(maxSteps:=1000000) (disch:=((try dsimp only);omega)) only[↓gsA,gsB]
 rw[ze7 hf ht hk];have e3:decide ((t.qa4.length:Int)<=0)=!decide (0<(t.qa4.length:Int)):=by rw[<- decide_not];exact decide_eq_decide.2 (by omega)
 rw[e3];by_cases h1:(t.to.length:Int)=z<;>by_cases h2:t.kind=3<;>by_cases h3:0<(t.qa4.length:Int)<;>simp only[h1,h2,h3,if_true,if_false,decide_true,decide_false]<;>rfl
theorem ok51(f:Fn)(t:Term)(known:List Bool)(h:f.ok/\t.ok/\known.length=f.qab.length):go51 f t known=some (Sp.qdl f t known,()):=by
 obtain⟨hf,ht,hk⟩:=h;have htr:t.qa4.length<=LEN:=ht.2.2.2.len;have hfr:f.qa4.length<=LEN:=hf.2.2.2.2.1.len;have htr':=htr;rw[qc6]at htr' hfr;unfold go51;rw[qas ⟨htr,hk⟩];simp(maxSteps:=1000000) (disch:=((try dsimp only);omega)) only[↓gsA,gsB]
 simp only[zcb hf ht hk];by_cases h1:t.kind=1
 ·simp[h1,Sp.qdl,Sp.kindOk,Sp.qeq]
 by_cases h2:t.kind=2
 ·simp[h2,Sp.qdl,Sp.kindOk,Sp.qeq]
 by_cases h3:t.kind=3
 rotate_left
 ·simp[h1,h2,h3,Sp.qdl,Sp.kindOk]
 rw[if_neg h1,if_neg h2,if_pos h3];by_cases h4:(t.qa4.length:Int)=f.qa4.length
 rotate_left
 ·rw[if_neg h4];simp[Sp.qdl,Sp.kindOk,h1,h2,h3,h4]
 rw[if_pos h4];cases hu:Sp.used f t.qa4 known with
 |false=>simp[Sp.qdl,Sp.kindOk,h1,h2,h3,hu]
 |true=>
  simp(maxSteps:=1000000) (disch:=((try dsimp only);omega)) only[↓gsA,gsB]
  unfold go51_l2;refine qbj (qbg (l:=List.range t.qa4.length) (st:=fun i=>((known,(),(),0,(i:Int),()),f,t,())) rfl 0 (Sp.zbt f t.qa4) (A:=.inl ((known,(),(),0,()),f,t,())) (B:=.inr ((false,()),())) (fun i hi hp=>?_) (fun i hi hp=>?_) (fun _=>?_)) ?_
  ·rw[zhd]at hi;rw[qa7 hi]at hp;have hp:=of_decide_eq_true hp;obtain⟨u1,u2,-⟩:=qf7 hu (i:=i) hi;simp(maxSteps:=1000000) (disch:=((try dsimp only);omega)) only[↓gsA,gsB]
  ·rw[zhd]at hi;rw[qa7 hi]at hp;have hp:=of_decide_eq_false hp;obtain⟨u1,u2,-⟩:=qf7 hu (i:=i) hi;simp(maxSteps:=1000000) (disch:=((try dsimp only);omega)) only[↓gsA,gsB]
  ·rw[zhd];simp(maxSteps:=1000000) (disch:=((try dsimp only);omega)) only[↓gsA,gsB]
  ·have hK:Sp.kindOk f t known=(List.range t.qa4.length).all (Sp.zbt f t.qa4):=by simp[Sp.kindOk,h3,h4,hu]
   simp only[Sp.qdl,hK];cases(List.range t.qa4.length).all (Sp.zbt f t.qa4)with
   |false=>rfl
   |true=>
    rw[if_pos rfl];simp(maxSteps:=1000000) (disch:=((try dsimp only);omega)) only[↓gsA,gsB]
    have e:Sp.qeq t.kind=0:=by simp[Sp.qeq,h1,h2]
    rw[zcb hf ht hk,e];rfl
end
def c51:Ctr Try.prog:=qcn 51 Try.f51 Try.func51 [c48,c95] ann51 [(0,(.st 6)),(1,(.st 2)),(2,(.fz .bool))] [] .b [] (fun x _=>grd (okB (x.1.ok/\x.2.1.ok/\x.2.2.1.length=x.1.qab.length)) (some (Sp.qdl x.1 x.2.1 x.2.2.1,()))) (fun x _ r h=>FO (run51 x.1 x.2.1 x.2.2.1) (ok51 x.1 x.2.1 x.2.2.1) h)
end
end Go.Abs
namespace Go.Abs
open Go Go.Proofs
noncomputable section
def ann50:Ann:=(.seq .o (.join ⟨[(2,(.ptr 0 0)),(3,(.ptr 1 0))],sh62⟩ (.seq .o (.cond (.seq .o .o) .o)) (.join sh41 .o (.join sh41 (.seq .o (.cond (.seq .o .o) .o)) (.seq .o (.join ⟨[(2,(.ptr 0 0)),(3,(.ptr 1 0)),(5,.b),(6,(.i .i64))],sh62⟩ (.seq .o (.cond .o .o)) (.seq .o (.join sh42 (.seq .o (.block (.loop sh43 [((.exit 0),sh42)] (.join sh43 (.seq .o (.cond .o .o)) (.join sh43 (.block .o) .o))))) (.seq .o (.join ⟨[(3,(.ptr 0 0)),(6,(.i .i64)),(7,(.full 1)),(9,(.i .i64))],sh69⟩ (.join ⟨[(2,(.ptr 0 0)),(3,(.ptr 1 0)),(5,.b),(6,(.i .i64)),(7,(.full 2)),(9,(.i .i64)),(69,.b)],sh63⟩ .o (.cond (.join sh44 (.seq .o (.cond (.seq .o .o) .o)) .o) (.seq .o (.cond (.join sh44 (.seq .o (.cond (.seq .o .o) .o)) .o) .o)))) (.join ⟨[(3,(.ptr 0 0)),(6,(.i .i64)),(7,(.full 1))],sh69⟩ (.seq .o (.block (.seq .o (.cond (.seq .o .o) (.seq .o (.cond (.seq .o .o) (.join ⟨[(3,(.ptr 0 0)),(6,(.i .i64)),(7,(.full 1)),(9,(.i .i64)),(121,(.i .i64)),(151,.b)],sh69⟩ (.seq .o (.cond .o .o)) (.cond (.seq .o .o) (.seq .o (.cond (.seq .o .o) (.seq .o (.cond (.seq .o .o) (.seq .o (.cond (.seq .o .o) (.seq .o (.cond (.seq .o .o) (.seq .o (.cond (.seq .o .o) .o)))))))))))))))))) (.join ⟨[(6,(.i .i64)),(7,(.full 0))],[(.lst 3 (.int .i64))]⟩ (.seq .o (.cond (.seq .o .o) .o)) (.seq .o .o)))))))))))))
def go50_j7(j0:(((Unit×ty11)×ty10)->(Option (Bool×Unit)))):((Unit×(Unit×(Bool×(Int×(Unit×(Int×(Bool×Unit)))))))×(Fn×ty10))->Option (Bool×Unit):=(fun z5=>(bif z5.1.2.2.2.2.2.2.1 then(bif(decide (z5.2.2.1.mem<0))then(some (false,()))else(bif(decide ((z5.2.1.qao.length:Int)<=z5.2.2.1.mem))then(some (false,()))else(grd (okB ((0<=z5.2.2.1.mem)/\(z5.2.2.1.mem<(z5.2.1.qao.length:Int)))) (j0 (((),(z5.1.2.2.2.1,((),((z5.2.1.qao.getD z5.2.2.1.mem.toNat Arr.z).width,())))),(z5.2.2.1,(z5.2.2.2.1,())))))))else(bif z5.1.2.2.1 then(bif(decide (z5.2.2.1.mem<0))then(some (false,()))else(bif(decide ((z5.2.1.streams.length:Int)<=z5.2.2.1.mem))then(some (false,()))else(grd (okB ((0<=z5.2.2.1.mem)/\(z5.2.2.1.mem<(z5.2.1.streams.length:Int)))) (bif(!((z5.2.1.streams.getD z5.2.2.1.mem.toNat qbp.z).out==(decide (z5.2.2.1.op=28))))then(some (false,()))else(grd (okB ((0<=z5.2.2.1.mem)/\(z5.2.2.1.mem<(z5.2.1.streams.length:Int)))) (j0 (((),(z5.1.2.2.2.1,((),((z5.2.1.streams.getD z5.2.2.1.mem.toNat qbp.z).width,())))),(z5.2.2.1,(z5.2.2.2.1,())))))))))else(j0 (((),(z5.1.2.2.2.1,((),(z5.1.2.2.2.2.2.1,())))),(z5.2.2.1,(z5.2.2.2.1,())))))))
def go50_j6:((Unit×(Int×(Unit×(Int×(Int×(Bool×Unit))))))×ty10)->Option (Bool×Unit):=(fun z6=>(bif z6.1.2.2.2.2.2.1 then(grd (okB (((0:Int)<=0)/\(0<(z6.2.2.1.length:Int)))) (grd (Nat.blt (0:Int).toNat z6.2.2.1.length) (some ((decide ((z6.2.2.1.getD (0:Int).toNat 0)<z6.1.2.1)),()))))else(bif(decide (z6.1.2.2.2.2.1=24))then(grd (okB (((0:Int)<=0)/\(0<(z6.2.2.1.length:Int)))) (grd (Nat.blt (0:Int).toNat z6.2.2.1.length) (some ((decide (z6.1.2.1<(z6.2.2.1.getD (0:Int).toNat 0))),()))))else(bif(decide (z6.1.2.2.2.2.1=25))then(bif(decide (z6.1.2.2.2.1=z6.1.2.1))then(grd (okB (((0:Int)<=1)/\(1<(z6.2.2.1.length:Int)))) (grd (Nat.blt (1:Int).toNat z6.2.2.1.length) (some ((decide ((z6.2.2.1.getD (1:Int).toNat 0)=1)),()))))else(some (false,())))else(bif(decide (z6.1.2.2.2.2.1=26))then(grd (okB (((0:Int)<=1)/\(1<(z6.2.2.1.length:Int)))) (grd (Nat.blt (1:Int).toNat z6.2.2.1.length) (bif(decide (z6.1.2.2.2.1=(z6.2.2.1.getD (1:Int).toNat 0)))then(grd (okB (((0:Int)<=2)/\(2<(z6.2.2.1.length:Int)))) (grd (Nat.blt (2:Int).toNat z6.2.2.1.length) (some ((decide ((z6.2.2.1.getD (2:Int).toNat 0)=1)),()))))else(some (false,())))))else(bif(decide (z6.1.2.2.2.2.1=27))then(bif(decide (z6.1.2.2.2.1=z6.1.2.1))then(grd (okB (((0:Int)<=0)/\(0<(z6.2.2.1.length:Int)))) (grd (Nat.blt (0:Int).toNat z6.2.2.1.length) (some ((decide ((z6.2.2.1.getD (0:Int).toNat 0)=1)),()))))else(some (false,())))else(bif(decide (z6.1.2.2.2.2.1=28))then(grd (okB (((0:Int)<=0)/\(0<(z6.2.2.1.length:Int)))) (grd (Nat.blt (0:Int).toNat z6.2.2.1.length) (bif(decide (z6.1.2.2.2.1=(z6.2.2.1.getD (0:Int).toNat 0)))then(grd (okB (((0:Int)<=1)/\(1<(z6.2.2.1.length:Int)))) (grd (Nat.blt (1:Int).toNat z6.2.2.1.length) (some ((decide ((z6.2.2.1.getD (1:Int).toNat 0)=1)),()))))else(some (false,())))))else(bif(Sp.qe1 z6.2.1.op)then(bif(decide (z6.1.2.1=1))then(grd (okB (((0:Int)<=0)/\(0<(z6.2.2.1.length:Int)))) (grd (Nat.blt (0:Int).toNat z6.2.2.1.length) (grd (okB (((0:Int)<=1)/\(1<(z6.2.2.1.length:Int)))) (grd (Nat.blt (1:Int).toNat z6.2.2.1.length) (some ((decide ((z6.2.2.1.getD (0:Int).toNat 0)=(z6.2.2.1.getD (1:Int).toNat 0))),()))))))else(some (false,())))else(grd (okB (((0:Int)<=0)/\(0<(z6.2.2.1.length:Int)))) (grd (Nat.blt (0:Int).toNat z6.2.2.1.length) (bif(decide ((z6.2.2.1.getD (0:Int).toNat 0)=z6.1.2.1))then(grd (okB (((0:Int)<=1)/\(1<(z6.2.2.1.length:Int)))) (grd (Nat.blt (1:Int).toNat z6.2.2.1.length) (some ((decide ((z6.2.2.1.getD (1:Int).toNat 0)=z6.1.2.1)),()))))else(some (false,())))))))))))))
def go50_j5:((Unit×ty11)×ty10)->Option (Bool×Unit):=(fun z5=>(bif(decide (z5.2.1.op=1))then(some ((decide ((Sp.fit z5.1.2.1 z5.2.1.num)=z5.2.1.num)),()))else(bif(decide (z5.2.1.op=21))then(grd (okB (((0:Int)<=0)/\(0<(z5.2.2.1.length:Int)))) (grd (Nat.blt (0:Int).toNat z5.2.2.1.length) (bif(decide ((z5.2.2.1.getD (0:Int).toNat 0)=1))then(grd (okB (((0:Int)<=1)/\(1<(z5.2.2.1.length:Int)))) (grd (Nat.blt (1:Int).toNat z5.2.2.1.length) (bif(decide ((z5.2.2.1.getD (1:Int).toNat 0)=z5.1.2.1))then(grd (okB (((0:Int)<=2)/\(2<(z5.2.2.1.length:Int)))) (grd (Nat.blt (2:Int).toNat z5.2.2.1.length) (some ((decide ((z5.2.2.1.getD (2:Int).toNat 0)=z5.1.2.1)),()))))else(some (false,())))))else(some (false,())))))else(jpO (go50_j6) (fun j0=>(bif(decide (z5.2.1.op=22))then(j0 (((),(z5.1.2.1,((),(z5.1.2.2.2.1,(z5.2.1.op,(true,())))))),(z5.2.1,(z5.2.2.1,()))))else(j0 (((),(z5.1.2.1,((),(z5.1.2.2.2.1,(z5.2.1.op,((decide (z5.2.1.op=23)),())))))),(z5.2.1,(z5.2.2.1,()))))))))))
def go50_l1:((Unit×(Unit×(Bool×ty11)))×(Fn×ty10))->Option (((Unit×(Unit×(Bool×ty11)))×(Fn×ty10))⊕((Unit×(Unit×(Bool×(Int×(Unit×Unit)))))×(Fn×ty10))):=(fun r0=>(bif(decide (r0.1.2.2.2.2.2.1<(r0.2.2.1.args.length:Int)))then(grd (okB ((0<=r0.1.2.2.2.2.2.1)/\(r0.1.2.2.2.2.2.1<(r0.2.2.1.args.length:Int)))) (grd (okB ((0<=(r0.2.2.1.args.getD r0.1.2.2.2.2.2.1.toNat 0))/\((r0.2.2.1.args.getD r0.1.2.2.2.2.2.1.toNat 0)<(r0.2.1.qab.length:Int)))) (grd (okB ((0<=r0.1.2.2.2.2.2.1)/\(r0.1.2.2.2.2.2.1<(r0.2.2.2.1.length:Int)))) (grd (Nat.blt r0.1.2.2.2.2.2.1.toNat r0.2.2.2.1.length) (grd (okB (((-9223372036854775808)<=(r0.1.2.2.2.2.2.1+1))/\((r0.1.2.2.2.2.2.1+1)<=9223372036854775807))) (some (Sum.inl (((),((),(r0.1.2.2.1,(r0.1.2.2.2.1,((),((r0.1.2.2.2.2.2.1+1),())))))),(r0.2.1,(r0.2.2.1,((r0.2.2.2.1.set r0.1.2.2.2.2.2.1.toNat (r0.2.1.qab.getD (r0.2.2.1.args.getD r0.1.2.2.2.2.2.1.toNat 0).toNat 0)),())))))))))))else(some (Sum.inr (((),((),(r0.1.2.2.1,(r0.1.2.2.2.1,((),()))))),(r0.2.1,(r0.2.2.1,(r0.2.2.2.1,()))))))))
def go50_j4:((Unit×(Unit×(Bool×(Int×Unit))))×(Fn×(qau×Unit)))->Option (Bool×Unit):=(fun z3=>(qak (qap (go50_l1) (((),((),(z3.1.2.2.1,(z3.1.2.2.2.1,((),(0,())))))),(z3.2.1,(z3.2.2.1,((0::(0::(0::([]:List Int)))),()))))) (fun z4=>(jpO (go50_j5) (fun j0=>(jpO (go50_j7 j0) (fun j1=>(bif(decide (z4.2.2.1.op=25))then(j1 (((),((),(z4.1.2.2.1,(z4.1.2.2.2.1,((),(0,(true,()))))))),(z4.2.1,(z4.2.2.1,(z4.2.2.2.1,())))))else(j1 (((),((),(z4.1.2.2.1,(z4.1.2.2.2.1,((),(0,((decide (z4.2.2.1.op=26)),()))))))),(z4.2.1,(z4.2.2.1,(z4.2.2.2.1,())))))))))))))
def go50_j3:((Unit×(Unit×(Bool×Unit)))×(Fn×(qau×Unit)))->Option (Bool×Unit):=(fun z2=>(jpO (go50_j4) (fun j0=>(bif(Sp.result z2.2.2.1.op)then(grd (okB ((0<=z2.2.2.1.dest)/\(z2.2.2.1.dest<(z2.2.1.qab.length:Int)))) (j0 (((),((),(z2.1.2.2.1,((z2.2.1.qab.getD z2.2.2.1.dest.toNat 0),())))),(z2.2.1,(z2.2.2.1,())))))else(j0 (((),((),(z2.1.2.2.1,(0,())))),(z2.2.1,(z2.2.2.1,()))))))))
def go50_j2:((Unit×(Unit×(Bool×Unit)))×(Fn×(qau×Unit)))->Option (Bool×Unit):=(fun z1=>(jpO (go50_j3) (fun j0=>(bif(!(decide (z1.2.2.1.mem=0)))then(bif(!z1.1.2.2.1)then(some (false,()))else(j0 (((),((),(z1.1.2.2.1,()))),(z1.2.1,(z1.2.2.1,())))))else(j0 (((),((),(z1.1.2.2.1,()))),(z1.2.1,(z1.2.2.1,()))))))))
def go50_j1:((Unit×(Unit×Unit))×(Fn×(qau×Unit)))->Option (Bool×Unit):=(fun z0=>(jpO (go50_j2) (fun j0=>(bif(decide (25<=z0.2.2.1.op))then(j0 (((),((),((decide (z0.2.2.1.op<=28)),()))),(z0.2.1,(z0.2.2.1,()))))else(j0 (((),((),(false,()))),(z0.2.1,(z0.2.2.1,()))))))))
def go50(x0:Fn)(x1:qau):(Option (Bool×Unit)):=(jpO (go50_j1) (fun j0=>(bif(!(decide (x1.num=0)))then(bif(!(decide (x1.op=1)))then(some (false,()))else(j0 (((),((),())),(x0,(x1,())))))else(j0 (((),((),())),(x0,(x1,())))))))
theorem run50(x0:Fn)(x1:qau):qei (P:=Try.prog) [c49,c93,c94] Try.f50 ann50 [(0,(.st 6)),(1,(.st 0))] [] .b [] (x0,(x1,())) ()=go50 x0 x1:=by kernel_rfl
def Sp.qht(op:Int):Bool:=decide (25<=op)&&decide (op<=28)
def Sp.wOf(f:Fn)(x:qau):Int:=if Sp.result x.op then f.qab.getD x.dest.toNat 0 else 0
def Sp.aL(f:Fn)(x:qau)(i:Nat):List Int:=
 [if 0<i then f.qab.getD (x.args.getD 0 0).toNat 0 else 0,if 1<i then f.qab.getD (x.args.getD 1 0).toNat 0 else 0,if 2<i then f.qab.getD (x.args.getD 2 0).toNat 0 else 0]
def Sp.mOf(f:Fn)(x:qau):Int:=
 if x.op=25\/x.op=26 then(f.qao.getD x.mem.toNat Arr.z).width else if Sp.qht x.op then(f.streams.getD x.mem.toNat qbp.z).width else 0
def Sp.qz3(x:qau):Bool:=!(!decide (x.num=0)&&!decide (x.op=1))&&!(!decide (x.mem=0)&&!Sp.qht x.op)
def Sp.qp0(f:Fn)(x:qau):Bool:=
 if x.op=25\/x.op=26 then !decide (x.mem<0)&&!decide ((f.qao.length:Int)<=x.mem)
 else if Sp.qht x.op then !decide (x.mem<0)&&!decide ((f.streams.length:Int)<=x.mem)&&((f.streams.getD x.mem.toNat qbp.z).out==decide (x.op=28))else true
def Sp.qsd(x:qau)(w m a0 a1 a2:Int):Bool:=
 if x.op=1 then decide (Sp.fit w x.num=x.num)
 else if x.op=21 then decide (a0=1)&&decide (a1=w)&&decide (a2=w)
 else if x.op=22\/x.op=23 then decide (a0<w)
 else if x.op=24 then decide (w<a0)
 else if x.op=25 then decide (m=w)&&decide (a1=1)
 else if x.op=26 then decide (m=a1)&&decide (a2=1)
 else if x.op=27 then decide (m=w)&&decide (a0=1)
 else if x.op=28 then decide (m=a0)&&decide (a1=1)
 else if Sp.qe1 x.op then decide (w=1)&&decide (a0=a1)
 else decide (a0=w)&&decide (a1=w)
def Sp.qd3(f:Fn)(x:qau):Bool:=
 Sp.qz3 x&&Sp.qp0 f x&&Sp.qsd x (Sp.wOf f x) (Sp.mOf f x) ((Sp.aL f x x.args.length).getD 0 0) ((Sp.aL f x x.args.length).getD 1 0) ((Sp.aL f x x.args.length).getD 2 0)
theorem zc6(f:Fn)(x:qau){i:Nat}(h:i<3):(Sp.aL f x i).set i (f.qab.getD (x.args.getD i 0).toNat 0)=Sp.aL f x (i+1):=by
 match i,h with
 |0,_=>simp[Sp.aL]
 |1,_=>simp[Sp.aL]
 |2,_=>simp[Sp.aL]
section
variable {f:Fn} {x:qau} {l:List Int} {w m:Int}
theorem ze2(hl:l.length=3)(op:Int)(b:Bool):go50_j6 (((),w,(),m,op,b,()),x,l,())=some (if b=true then decide (l.getD 0 0<w)else if op=24 then decide (w<l.getD 0 0)
 else if op=25 then decide (m=w)&&decide (l.getD 1 0=1)
 else if op=26 then decide (m=l.getD 1 0)&&decide (l.getD 2 0=1)
 else if op=27 then decide (m=w)&&decide (l.getD 0 0=1)
 else if op=28 then decide (m=l.getD 0 0)&&decide (l.getD 1 0=1)
 else if Sp.qe1 x.op then decide (w=1)&&decide (l.getD 0 0=l.getD 1 0)
 else decide (l.getD 0 0=w)&&decide (l.getD 1 0=w),()):=by
 unfold go50_j6;have g:∀k:Nat,k<3->∀ {ρ:Type} (y:Option ρ),grd (okB ((0:Int)<=(k:Int)/\(k:Int)<((l.length:Nat):Int))) y=y:=fun k hk ρ y=>qib (by omega);have g0:∀ {ρ:Type} (y:Option ρ),grd (okB ((0:Int)<=(0:Int)/\(0:Int)<((l.length:Nat):Int))) y=y:=g 0 (by omega);have g1:∀ {ρ:Type} (y:Option ρ),grd (okB ((0:Int)<=(1:Int)/\(1:Int)<((l.length:Nat):Int))) y=y:=g 1 (by omega);have g2:∀ {ρ:Type} (y:Option ρ),grd (okB ((0:Int)<=(2:Int)/\(2:Int)<((l.length:Nat):Int))) y=y:=g 2 (by omega);have b0:∀ {ρ:Type} (y:Option ρ),grd (Nat.blt 0 l.length) y=y:=fun y=>qdi (by omega);have b1:∀ {ρ:Type} (y:Option ρ),grd (Nat.blt 1 l.length) y=y:=fun y=>qdi (by omega);have b2:∀ {ρ:Type} (y:Option ρ),grd (Nat.blt 2 l.length) y=y:=fun y=>qdi (by omega);simp only[g0,g1,g2,b0,b1,b2,qc1,show Int.toNat 0=0 from rfl,show Int.toNat 1=1 from rfl,show Int.toNat 2=2 from rfl];generalize l.getD 0 0=a0;generalize l.getD 1 0=a1;generalize l.getD 2 0=a2;have ab:∀(p:Prop) [Decidable p] (c:Bool),(if p then(some (c,()):Option (Bool×Unit))else some (false,()))=some (decide p&&c,()):=fun p _ c=>by by_cases h:p<;>simp[h]
 simp only[ab];cases b
 ·cases Sp.qe1 x.op<;>simp only[cond_true,cond_false,zhs,if_true,if_false]<;>repeat' split
  all_goals rfl
 ·rfl
theorem ze3(hl:l.length=3):go50_j5 (((),w,(),m,()),x,l,())=some (Sp.qsd x w m (l.getD 0 0) (l.getD 1 0) (l.getD 2 0),()):=by
 unfold go50_j5 Sp.qsd;have g0:∀ {ρ:Type} (y:Option ρ),grd (okB ((0:Int)<=(0:Int)/\(0:Int)<((l.length:Nat):Int))) y=y:=fun y=>qib (by omega);have g1:∀ {ρ:Type} (y:Option ρ),grd (okB ((0:Int)<=(1:Int)/\(1:Int)<((l.length:Nat):Int))) y=y:=fun y=>qib (by omega);have g2:∀ {ρ:Type} (y:Option ρ),grd (okB ((0:Int)<=(2:Int)/\(2:Int)<((l.length:Nat):Int))) y=y:=fun y=>qib (by omega);have b0:∀ {ρ:Type} (y:Option ρ),grd (Nat.blt 0 l.length) y=y:=fun y=>qdi (by omega);have b1:∀ {ρ:Type} (y:Option ρ),grd (Nat.blt 1 l.length) y=y:=fun y=>qdi (by omega);have b2:∀ {ρ:Type} (y:Option ρ),grd (Nat.blt 2 l.length) y=y:=fun y=>qdi (by omega);have ab:∀(p:Prop) [Decidable p] (c:Bool),(if p then(some (c,()):Option (Bool×Unit))else some (false,()))=some (decide p&&c,()):=fun p _ c=>by by_cases h:p<;>simp[h]
 simp only[g0,g1,g2,b0,b1,b2,qc1,qd9,ze2 hl,show Int.toNat 0=0 from rfl,show Int.toNat 1=1 from rfl,show Int.toNat 2=2 from rfl,ab];by_cases h1:x.op=1
 ·simp[h1]
 by_cases h2:x.op=21
 ·simp[h2,Bool.and_assoc]
 by_cases h3:x.op=22
 ·simp[h3]
 by_cases h4:x.op=23
 ·simp[h4]
 simp[h1,h2,h3,h4]
theorem ze1(j0:(((Unit×(Int×(Unit×(Int×Unit))))×(qau×((List Int)×Unit)))->(Option (Bool×Unit)))):go50_j7 j0 (((),(),Sp.qht x.op,w,(),0,(decide (x.op=25\/x.op=26)),()),f,x,l,()) =
  if Sp.qp0 f x=true then j0 (((),w,(),Sp.mOf f x,()),x,l,())else some (false,()):=by
 unfold go50_j7 Sp.qp0 Sp.mOf;simp(maxSteps:=1000000) (disch:=((try dsimp only);omega)) only[↓gsA,gsB]
 by_cases h1:x.op=25\/x.op=26
 ·simp only[if_pos h1];by_cases h2:x.mem<0<;>by_cases h3:(f.qao.length:Int)<=x.mem<;>simp[h2,h3]
 ·simp only[if_neg h1];cases Sp.qht x.op
  ·simp
  ·by_cases h2:x.mem<0<;>by_cases h3:(f.streams.length:Int)<=x.mem<;>cases(f.streams.getD x.mem.toNat qbp.z).out==decide (x.op=28)<;>simp[h2,h3]
theorem ze4(ha:x.args.length<=3)(hu:∀i,i<x.args.length->0<=x.args.getD i 0/\x.args.getD i 0<f.qab.length):go50_j4 (((),(),Sp.qht x.op,w,()),f,x,()) =
  some (Sp.qp0 f x&&Sp.qsd x w (Sp.mOf f x) ((Sp.aL f x x.args.length).getD 0 0) ((Sp.aL f x x.args.length).getD 1 0) ((Sp.aL f x x.args.length).getD 2 0),()):=by
 unfold go50_j4 go50_l1;refine qbj (qct (st:=fun i=>(((),(),Sp.qht x.op,w,(),(i:Int),()),f,x,Sp.aL f x i,())) rfl x.args.length (X0:=(((),(),Sp.qht x.op,w,(),()),f,x,Sp.aL f x x.args.length,())) (fun i hi=>?_) ?_) ?_
 ·have hl:(Sp.aL f x i).length=3:=rfl;obtain⟨u1,u2⟩:=hu i hi;have e:=zc6 f x (i:=i) (by omega);simp(maxSteps:=1000000) (disch:=((try dsimp only);omega)) only[↓gsA,gsB]
  rw[<- e]
 ·simp(maxSteps:=1000000) (disch:=((try dsimp only);omega)) only[↓gsA,gsB]
 ·have hl:(Sp.aL f x x.args.length).length=3:=rfl;have e:∀b:Bool,b=decide (x.op=25\/x.op=26)->go50_j7 go50_j5 (((),(),Sp.qht x.op,w,(),0,b,()),f,x,Sp.aL f x x.args.length,()) =
    some (Sp.qp0 f x&&Sp.qsd x w (Sp.mOf f x) ((Sp.aL f x x.args.length).getD 0 0) ((Sp.aL f x x.args.length).getD 1 0) ((Sp.aL f x x.args.length).getD 2 0),()):=fun b hb=>by
   subst hb;rw[ze1,ze3 hl];cases Sp.qp0 f x<;>rfl
  simp only[qd9,qc1];split
  ·rename_i h;exact e true (by simp[h])
  ·rename_i h;exact e (decide (x.op=26)) (by simp[h])
theorem ze6(ha:x.args.length<=3)(hu:∀i,i<x.args.length->0<=x.args.getD i 0/\x.args.getD i 0<f.qab.length)(hd:Sp.result x.op=true->0<=x.dest/\x.dest<f.qab.length):go50_j3 (((),(),Sp.qht x.op,()),f,x,()) =
  some (Sp.qp0 f x&&Sp.qsd x (Sp.wOf f x) (Sp.mOf f x) ((Sp.aL f x x.args.length).getD 0 0) ((Sp.aL f x x.args.length).getD 1 0) ((Sp.aL f x x.args.length).getD 2 0),()):=by
 unfold go50_j3 Sp.wOf;simp only[qd9,ze4 ha hu];cases h:Sp.result x.op with
 |false=>rfl
 |true=>
  obtain⟨h1,h2⟩:=hd h;simp(maxSteps:=1000000) (disch:=((try dsimp only);omega)) only[↓gsA,gsB]
def Sp.qmr(f:Fn)(x:qau):Prop:=x.args.length<=3/\(∀i,i<x.args.length->0<=x.args.getD i 0/\x.args.getD i 0<f.qab.length)/\(Sp.result x.op=true->0<=x.dest/\x.dest<f.qab.length)
theorem ok50(f:Fn)(x:qau)(h:Sp.qmr f x):go50 f x=some (Sp.qd3 f x,()):=by
 obtain⟨ha,hu,hd⟩:=h;have e1:go50_j1 (((),(),()),f,x,())=some (!(!decide (x.mem=0)&&!Sp.qht x.op)&&(Sp.qp0 f x&&Sp.qsd x (Sp.wOf f x) (Sp.mOf f x) ((Sp.aL f x x.args.length).getD 0 0) ((Sp.aL f x x.args.length).getD 1 0) ((Sp.aL f x x.args.length).getD 2 0)),()):=by
  have e:∀b:Bool,b=Sp.qht x.op->go50_j2 (((),(),b,()),f,x,())=some (!(!decide (x.mem=0)&&!Sp.qht x.op)&&(Sp.qp0 f x&&Sp.qsd x (Sp.wOf f x) (Sp.mOf f x) ((Sp.aL f x x.args.length).getD 0 0) ((Sp.aL f x x.args.length).getD 1 0) ((Sp.aL f x x.args.length).getD 2 0)),()):=fun b hb=>by
   subst hb;unfold go50_j2;simp only[qd9,ze6 ha hu hd,qqp,qc1];by_cases hm:x.mem=0
   ·rw[if_pos hm,decide_eq_true hm];rfl
   ·rw[if_neg hm,decide_eq_false hm];cases Sp.qht x.op<;>rfl
  unfold go50_j1;simp only[qd9,qc1];split
  ·rename_i h;exact e _ (by simp[Sp.qht,h])
  ·rename_i h;exact e _ (by simp[Sp.qht,h])
 unfold go50 Sp.qd3 Sp.qz3;simp only[qd9,e1,qqp,qc1];by_cases h1:x.num=0
 ·rw[if_pos h1,decide_eq_true h1];simp[Bool.and_assoc]
 ·rw[if_neg h1,decide_eq_false h1];by_cases h2:x.op=1
  ·rw[if_pos h2,decide_eq_true h2];simp[Bool.and_assoc]
  ·rw[if_neg h2,decide_eq_false h2];rfl
end
def c50:Ctr Try.prog:=qcn 50 Try.f50 Try.func50 [c49,c93,c94] ann50 [(0,(.st 6)),(1,(.st 0))] [] .b [] (fun x _=>grd (okB (Sp.qmr x.1 x.2.1)) (some (Sp.qd3 x.1 x.2.1,())))
 (fun x _ r h=>FO (run50 x.1 x.2.1) (ok50 x.1 x.2.1) h)
end
end Go.Abs
namespace Go.Abs
open Go Go.Proofs
noncomputable section
def ann18:Ann:=(.seq .o (.join sh34 (.seq .o (.cond (.seq .o .o) .o)) (.seq .o (.join sh45 (.seq .o (.block (.loop sh46 [((.exit 0),sh45)] (.seq .o (.join sh46 (.cond .o .o) (.join sh46 (.block .o) .o)))))) (.join ⟨[],[]⟩ (.seq .o (.block (.loop sh47 [((.exit 2),⟨[],[]⟩),(.ret,sh21)] (.join sh47 (.seq .o (.cond .o .o)) (.join sh47 (.block (.seq .o (.join ⟨sh67,[(.box 30 (.st 6)),(.lst 4 .bool),(.box 41 (.st 3))]⟩ (.seq .o (.cond (.seq .o .o) .o)) (.seq .o (.join sh48 (.seq .o (.block (.loop sh49 [((.exit 4),sh48)] (.seq .o (.join sh49 (.cond .o .o) (.join sh49 (.block .o) .o)))))) (.join sh48 (.seq .o (.block (.loop sh50 [((.exit 6),sh48),(.ret,sh21)] (.join sh50 (.seq .o (.cond .o .o)) (.join sh50 (.block (.seq .o (.join ⟨[(1,(.ptr 0 0)),(3,(.full 1)),(4,(.i .i64)),(5,(.ptr 2 0)),(6,(.full 3)),(7,(.i .i64)),(8,(.i .i64))],sh65⟩ (.seq .o (.cond (.seq .o .o) .o)) (.seq .o .o)))) .o))))) (.join sh48 (.seq .o (.block (.loop sh51 [((.exit 8),sh48),(.ret,sh21)] (.join sh51 (.seq .o (.cond .o .o)) (.join sh51 (.block (.seq .o (.join sh52 (.seq .o (.cond (.seq .o .o) .o)) (.join sh52 (.seq .o (.cond (.seq .o (.cond (.seq .o .o) .o)) (.seq .o (.cond (.seq .o .o) .o)))) (.join sh52 (.seq .o (.cond (.seq .o .o) .o)) (.seq .o (.cond (.seq .o .o) .o))))))) .o))))) (.seq .o (.cond (.seq .o .o) .o))))))))) .o))))) (.seq .o .o))))))
def go18_j2(j0:(ty13->(Option ty1))):((Unit×(Unit×(Int×(Unit×(Unit×(Int×(Unit×Unit)))))))×(Fn×((List Bool)×(Block×((List Bool)×(qau×Unit))))))->Option ty1:=(fun z4=>(qak (grd (okB (Sp.qmr z4.2.1 z4.2.2.2.2.2.1)) (some ((Sp.qd3 z4.2.1 z4.2.2.2.2.2.1),()))) (fun r7=>(bif(!r7.1)then(some (Sum.inr (Sum.inr ((false,()),()))))else(bif(Sp.result z4.2.2.2.2.2.1.op)then(grd (okB ((0<=z4.2.2.2.2.2.1.dest)/\(z4.2.2.2.2.2.1.dest<(z4.2.2.1.length:Int)))) (grd (Nat.blt z4.2.2.2.2.2.1.dest.toNat z4.2.2.1.length) (grd (okB ((0<=z4.2.2.2.2.2.1.dest)/\(z4.2.2.2.2.2.1.dest<(z4.2.2.2.2.1.length:Int)))) (grd (Nat.blt z4.2.2.2.2.2.1.dest.toNat z4.2.2.2.2.1.length) (j0 (((),((),(z4.1.2.2.1,((),((),(z4.1.2.2.2.2.2.1,())))))),(z4.2.1,((z4.2.2.1.set z4.2.2.2.2.2.1.dest.toNat true),(z4.2.2.2.1,((z4.2.2.2.2.1.set z4.2.2.2.2.2.1.dest.toNat true),()))))))))))else(j0 (((),((),(z4.1.2.2.1,((),((),(z4.1.2.2.2.2.2.1,())))))),(z4.2.1,(z4.2.2.1,(z4.2.2.2.1,(z4.2.2.2.2.1,())))))))))))
def go18_j1:ty13->Option ty1:=(fun z4=>(grd (okB (((-9223372036854775808)<=(z4.1.2.2.2.2.2.1+1))/\((z4.1.2.2.2.2.2.1+1)<=9223372036854775807))) (some (Sum.inl (((),((),(z4.1.2.2.1,((),((),((z4.1.2.2.2.2.2.1+1),())))))),(z4.2.1,(z4.2.2.1,(z4.2.2.2.1,(z4.2.2.2.2.1,())))))))))
def go18_l5:ty13->Option ty1:=(fun r5=>(bif(decide (r5.1.2.2.2.2.2.1<(r5.2.2.2.1.insts.length:Int)))then(jpO (go18_j1) (fun j0=>(grd (okB ((0<=r5.1.2.2.2.2.2.1)/\(r5.1.2.2.2.2.2.1<(r5.2.2.2.1.insts.length:Int)))) (bif(!(decide ((Sp.arity (r5.2.2.2.1.insts.getD r5.1.2.2.2.2.2.1.toNat qau.z).op)=(((r5.2.2.2.1.insts.getD r5.1.2.2.2.2.2.1.toNat qau.z).args.length:Nat):Int))))then(some (Sum.inr (Sum.inr ((false,()),()))))else(qak (grd (okB (((r5.2.2.2.1.insts.getD r5.1.2.2.2.2.2.1.toNat qau.z).args.length<=LEN)/\(r5.2.2.2.2.1.length=r5.2.1.qab.length))) (some ((Sp.used r5.2.1 (r5.2.2.2.1.insts.getD r5.1.2.2.2.2.2.1.toNat qau.z).args r5.2.2.2.2.1),()))) (fun r6=>(bif(!r6.1)then(some (Sum.inr (Sum.inr ((false,()),()))))else(jpO (go18_j2 j0) (fun j1=>(bif(Sp.result (r5.2.2.2.1.insts.getD r5.1.2.2.2.2.2.1.toNat qau.z).op)then(bif(!(Sp.within r5.2.1 (r5.2.2.2.1.insts.getD r5.1.2.2.2.2.2.1.toNat qau.z).dest))then(some (Sum.inr (Sum.inr ((false,()),()))))else(grd (okB ((0<=(r5.2.2.2.1.insts.getD r5.1.2.2.2.2.2.1.toNat qau.z).dest)/\((r5.2.2.2.1.insts.getD r5.1.2.2.2.2.2.1.toNat qau.z).dest<(r5.2.2.1.length:Int)))) (grd (Nat.blt (r5.2.2.2.1.insts.getD r5.1.2.2.2.2.2.1.toNat qau.z).dest.toNat r5.2.2.1.length) (bif(r5.2.2.1.getD (r5.2.2.2.1.insts.getD r5.1.2.2.2.2.2.1.toNat qau.z).dest.toNat false)then(some (Sum.inr (Sum.inr ((false,()),()))))else(j1 (((),((),(r5.1.2.2.1,((),((),(r5.1.2.2.2.2.2.1,((),()))))))),(r5.2.1,(r5.2.2.1,(r5.2.2.2.1,(r5.2.2.2.2.1,((r5.2.2.2.1.insts.getD r5.1.2.2.2.2.2.1.toNat qau.z),())))))))))))else(bif(!(decide ((r5.2.2.2.1.insts.getD r5.1.2.2.2.2.2.1.toNat qau.z).dest=(-1))))then(some (Sum.inr (Sum.inr ((false,()),()))))else(j1 (((),((),(r5.1.2.2.1,((),((),(r5.1.2.2.2.2.2.1,((),()))))))),(r5.2.1,(r5.2.2.1,(r5.2.2.2.1,(r5.2.2.2.2.1,((r5.2.2.2.1.insts.getD r5.1.2.2.2.2.2.1.toNat qau.z),()))))))))))))))))))else(some (Sum.inr (Sum.inl (((),((),(r5.1.2.2.1,((),((),()))))),(r5.2.1,(r5.2.2.1,(r5.2.2.2.1,(r5.2.2.2.2.1,()))))))))))
def go18_l4:ty13->Option ty1:=(fun r5=>(bif(decide (r5.1.2.2.2.2.2.1<(r5.2.2.2.1.params.length:Int)))then(grd (okB ((0<=r5.1.2.2.2.2.2.1)/\(r5.1.2.2.2.2.2.1<(r5.2.2.2.1.params.length:Int)))) (bif(!(Sp.within r5.2.1 (r5.2.2.2.1.params.getD r5.1.2.2.2.2.2.1.toNat 0)))then(some (Sum.inr (Sum.inr ((false,()),()))))else(grd (okB ((0<=(r5.2.2.2.1.params.getD r5.1.2.2.2.2.2.1.toNat 0))/\((r5.2.2.2.1.params.getD r5.1.2.2.2.2.2.1.toNat 0)<(r5.2.2.1.length:Int)))) (grd (Nat.blt (r5.2.2.2.1.params.getD r5.1.2.2.2.2.2.1.toNat 0).toNat r5.2.2.1.length) (bif(r5.2.2.1.getD (r5.2.2.2.1.params.getD r5.1.2.2.2.2.2.1.toNat 0).toNat false)then(some (Sum.inr (Sum.inr ((false,()),()))))else(grd (okB ((0<=(r5.2.2.2.1.params.getD r5.1.2.2.2.2.2.1.toNat 0))/\((r5.2.2.2.1.params.getD r5.1.2.2.2.2.2.1.toNat 0)<(r5.2.2.1.length:Int)))) (grd (Nat.blt (r5.2.2.2.1.params.getD r5.1.2.2.2.2.2.1.toNat 0).toNat r5.2.2.1.length) (grd (okB ((0<=(r5.2.2.2.1.params.getD r5.1.2.2.2.2.2.1.toNat 0))/\((r5.2.2.2.1.params.getD r5.1.2.2.2.2.2.1.toNat 0)<(r5.2.2.2.2.1.length:Int)))) (grd (Nat.blt (r5.2.2.2.1.params.getD r5.1.2.2.2.2.2.1.toNat 0).toNat r5.2.2.2.2.1.length) (grd (okB (((-9223372036854775808)<=(r5.1.2.2.2.2.2.1+1))/\((r5.1.2.2.2.2.2.1+1)<=9223372036854775807))) (some (Sum.inl (((),((),(r5.1.2.2.1,((),((),((r5.1.2.2.2.2.2.1+1),())))))),(r5.2.1,((r5.2.2.1.set (r5.2.2.2.1.params.getD r5.1.2.2.2.2.2.1.toNat 0).toNat true),(r5.2.2.2.1,((r5.2.2.2.2.1.set (r5.2.2.2.1.params.getD r5.1.2.2.2.2.2.1.toNat 0).toNat true),())))))))))))))))))else(some (Sum.inr (Sum.inl (((),((),(r5.1.2.2.1,((),((),()))))),(r5.2.1,(r5.2.2.1,(r5.2.2.2.1,(r5.2.2.2.2.1,()))))))))))
def go18_l3:((Unit×(Unit×(Int×ty7)))×ty5)->Option (((Unit×(Unit×(Int×ty7)))×ty5)⊕((Unit×(Unit×(Int×(Unit×(Unit×Unit)))))×ty5)):=(fun r5=>(bif(decide (r5.1.2.2.2.2.2.2.1<r5.1.2.2.2.2.2.1))then(grd (okB ((((r5.2.2.2.2.1.length+1)*1)<=140737488355328)/\((r5.2.2.2.2.1.length+1)<=281474976710656))) (grd (okB (((-9223372036854775808)<=(r5.1.2.2.2.2.2.2.1+1))/\((r5.1.2.2.2.2.2.2.1+1)<=9223372036854775807))) (some (Sum.inl (((),((),(r5.1.2.2.1,((),((),(r5.1.2.2.2.2.2.1,((r5.1.2.2.2.2.2.2.1+1),()))))))),(r5.2.1,(r5.2.2.1,(r5.2.2.2.1,((r5.2.2.2.2.1++(false::([]:List Bool))),())))))))))else(some (Sum.inr (((),((),(r5.1.2.2.1,((),((),()))))),(r5.2.1,(r5.2.2.1,(r5.2.2.2.1,(r5.2.2.2.2.1,())))))))))
def go18_l2:(ty3×ty17)->Option ((ty3×ty17)⊕ty8):=(fun r4=>(bif(decide (r4.1.2.2.1<(r4.2.1.blocks.length:Int)))then(grd (okB ((0<=r4.1.2.2.1)/\(r4.1.2.2.1<(r4.2.1.blocks.length:Int)))) (bif(decide (4096<(((r4.2.1.blocks.getD r4.1.2.2.1.toNat Block.z).insts.length:Nat):Int)))then(some (Sum.inr (Sum.inr ((false,()),()))))else(bif(decide ((r4.2.1.blocks.getD r4.1.2.2.1.toNat Block.z).qar<0))then(some (Sum.inr (Sum.inr ((false,()),()))))else(bif(decide (256<(r4.2.1.blocks.getD r4.1.2.2.1.toNat Block.z).qar))then(some (Sum.inr (Sum.inr ((false,()),()))))else(bif(decide ((r4.2.1.blocks.getD r4.1.2.2.1.toNat Block.z).qba<0))then(some (Sum.inr (Sum.inr ((false,()),()))))else(bif(decide (64<(r4.2.1.blocks.getD r4.1.2.2.1.toNat Block.z).qba))then(some (Sum.inr (Sum.inr ((false,()),()))))else(bif(decide ((r4.2.1.blocks.getD r4.1.2.2.1.toNat Block.z).line<0))then(some (Sum.inr (Sum.inr ((false,()),()))))else(bif(decide (2147483647<(r4.2.1.blocks.getD r4.1.2.2.1.toNat Block.z).line))then(some (Sum.inr (Sum.inr ((false,()),()))))else(qak (qap (go18_l3) (((),((),(r4.1.2.2.1,((),((),((r4.2.1.qab.length:Int),(0,()))))))),(r4.2.1,(r4.2.2.1,((r4.2.1.blocks.getD r4.1.2.2.1.toNat Block.z),(([]:List Bool),())))))) (fun z1=>(qak (qap (go18_l4) (((),((),(z1.1.2.2.1,((),((),(0,())))))),(z1.2.1,(z1.2.2.1,(z1.2.2.2.1,(z1.2.2.2.2.1,())))))) (fun z2=>(qjo (fun z3=>(qak (qap (go18_l5) (((),((),(z3.1.2.2.1,((),((),(0,())))))),(z3.2.1,(z3.2.2.1,(z3.2.2.2.1,(z3.2.2.2.2.1,())))))) (fun z4=>(qjo (fun z5=>(qak (grd (okB ((Fn.ok z5.2.1)/\((Term.ok (Term.mk z5.2.2.2.1.term.kind z5.2.2.2.1.term.cond z5.2.2.2.1.term.to z5.2.2.2.1.term.qa4))/\(z5.2.2.2.2.1.length=z5.2.1.qab.length)))) (some ((Sp.qdl z5.2.1 (Term.mk z5.2.2.2.1.term.kind z5.2.2.2.1.term.cond z5.2.2.2.1.term.to z5.2.2.2.1.term.qa4) z5.2.2.2.2.1),()))) (fun r5=>(bif(!r5.1)then(some (Sum.inr (Sum.inr ((false,()),()))))else(grd (okB (((-9223372036854775808)<=(z5.1.2.2.1+1))/\((z5.1.2.2.1+1)<=9223372036854775807))) (some (Sum.inl (((),((),((z5.1.2.2.1+1),()))),(z5.2.1,(z5.2.2.1,())))))))))) (fun z5=>(some (Sum.inr (Sum.inr ((z5.1.1,()),()))))) z4)))) (fun z3=>(some (Sum.inr (Sum.inr ((z3.1.1,()),()))))) z2)))))))))))))else(some (Sum.inr (Sum.inl ((),()))))))
def go18_l1:(ty7×ty17)->Option ((ty7×ty17)⊕((Unit×(Unit×Unit))×ty17)):=(fun r4=>(bif(decide (r4.1.2.2.2.1<r4.1.2.2.1))then(grd (okB ((((r4.2.2.1.length+1)*1)<=140737488355328)/\((r4.2.2.1.length+1)<=281474976710656))) (grd (okB (((-9223372036854775808)<=(r4.1.2.2.2.1+1))/\((r4.1.2.2.2.1+1)<=9223372036854775807))) (some (Sum.inl (((),((),(r4.1.2.2.1,((r4.1.2.2.2.1+1),())))),(r4.2.1,((r4.2.2.1++(false::([]:List Bool))),())))))))else(some (Sum.inr (((),((),())),(r4.2.1,(r4.2.2.1,())))))))
def go18(x0:Fn):(Option (Bool×Unit)):=(qak (grd (okB ((ByteArray.size x0.name)<=9223372036854775807)) (some ((Sp.ident x0.name),()))) (fun r0=>(bif(!r0.1)then(some (false,()))else(qak (grd (okB (Fn.ok x0)) (some ((Sp.qpz x0),()))) (fun r1=>(bif(!r1.1)then(some (false,()))else(qak (grd (okB (x0.qab.length<=LEN)) (some ((Sp.qab x0.qab 65536),()))) (fun r2=>(bif(!r2.1)then(some (false,()))else(qak (grd (okB (x0.qa4.length<=LEN)) (some ((Sp.qab x0.qa4 64),()))) (fun r3=>(bif(!r3.1)then(some (false,()))else(bif(decide ((x0.blocks.length:Int)<1))then(some (false,()))else(bif(decide (1024<(x0.blocks.length:Int)))then(some (false,()))else(qak (qap (go18_l1) (((),((),((x0.qab.length:Int),(0,())))),(x0,(([]:List Bool),())))) (fun z0=>(qak (qap (go18_l2) (((),((),(0,()))),(z0.2.1,(z0.2.2.1,())))) (fun z1=>(qjo (fun z2=>(some (true,()))) (fun z2=>(some (z2.1.1,()))) z1)))))))))))))))))))
theorem run18(x0:Fn):qei (P:=Try.prog) [c14,c44,c45,c46,c47,c48,c49,c50,c51] Try.f18 ann18 [(0,(.st 6))] [] .b [] (x0,()) ()=go18 x0:=by kernel_rfl
def qdz{σ X:Type}(x:Option σ)(A:σ->X)(B:X):X:=match x with
 |some s=>A s
 |none=>B
def qdg{σ α:Type}(g:σ->α->Option σ):List α->σ->Option σ
 |[],s=>some s
 |a::l,s=>match g s a with
  |some s'=>qdg g l s'
  |none=>none
theorem qh2{σ β D X:Type}{f:D->Option (D⊕X)}{l:List β}{y0:D}(z:β)(g:σ->β->Option σ)(I:σ->Prop){st:Nat->σ->D}{s0:σ}(hy:y0=st 0 s0)(h0:I s0)(hI:∀s a s',I s->g s a=some s'->I s')(A:σ->X)(B:X)
  (h1:∀i s,i<l.length->I s->f (st i s)=some (qdz (g s (l.getD i z)) (fun s'=>.inl (st (i+1) s')) (.inr B))) (h2:∀s,I s->f (st l.length s)=some (.inr (A s))) :
  qap f y0=some (qdz (qdg g l s0) A B):=by
 subst hy;have key:∀(r:List β) (i:Nat) (s:σ),l.drop i=r->i+r.length=l.length->I s->qap f (st i s)=some (qdz (qdg g r s) A B):=by
  intro r
  induction r with
  |nil=>
   intro i s hd hi hs;rw[qa8,show i=l.length by simpa using hi,h2 s hs];rfl
  |cons a r ih=>
   intro i s hd hi hs;have hlt:i<l.length:=by simp at hi;omega
   have ha:l.getD i z=a:=by
    have:=congrArg (·[0]?) hd;simp only[List.getElem?_drop,zh3,List.getElem?_cons_zero]at this;rw[zg0,this];rfl
   have hdrop:l.drop (i+1)=r:=by
    have:=congrArg (·.drop 1) hd;simpa[List.drop_drop,zil]using this
   rw[qa8,h1 i s hlt hs,ha];simp only[qdg];cases hg:g s a with
   |none=>rfl
   |some s'=>exact ih (i+1) s' hdrop (by simp at hi;omega) (hI s a s' hs hg)
 exact key l 0 s0 rfl (by simp) h0
abbrev DK:=List Bool×List Bool
def Sp.qdf(f:Fn)(s:DK)(v:Int):Option DK:=if Sp.within f v=true/\s.1.getD v.toNat false=false then some (s.1.set v.toNat true,s.2.set v.toNat true)else none
def Sp.qf4(f:Fn)(d:List Bool)(x:qau):Bool:=if Sp.result x.op=true then Sp.within f x.dest&&!(d.getD x.dest.toNat false)else decide (x.dest=-1)
def Sp.mark(s:DK)(x:qau):DK:=if Sp.result x.op=true then(s.1.set x.dest.toNat true,s.2.set x.dest.toNat true)else s
def Sp.qcl(f:Fn)(s:DK)(x:qau):Option DK:=
 if Sp.arity x.op=x.args.length/\Sp.used f x.args s.2=true/\Sp.qf4 f s.1 x=true/\Sp.qd3 f x=true then some (Sp.mark s x)else none
def Sp.q0l(b:Block):Bool:=
 !decide (4096<(b.insts.length:Int))&&!decide (b.qar<0)&&!decide (256<b.qar)&&!decide (b.qba<0)&&!decide (64<b.qba)&&!decide (b.line<0)&&!decide (2147483647<b.line)
def Sp.qcp(f:Fn)(d:List Bool)(b:Block):Option (List Bool):=
 if Sp.q0l b=true then(match qdg (Sp.qdf f) b.params (d,List.replicate f.qab.length false)with
  |some s=>match qdg (Sp.qcl f) b.insts s with
   |some s'=>if Sp.qdl f b.term s'.2=true then some s'.1 else none
   |none=>none
  | none=>none)else none
def Sp.qr7(f:Fn):Bool:=Sp.ident f.name&&Sp.qpz f&&Sp.qab f.qab 65536&&Sp.qab f.qa4 64&&!decide ((f.blocks.length:Int)<1)&&!decide (1024<(f.blocks.length:Int))
def Sp.valid(f:Fn):Bool:=Sp.qr7 f&&(qdg (Sp.qcp f) f.blocks (List.replicate f.qab.length false)).isSome
theorem qh7(f:Fn):∀s a s',(s.1.length=f.qab.length/\s.2.length=f.qab.length)->Sp.qdf f s a=some s'->(s'.1.length=f.qab.length/\s'.2.length=f.qab.length):=by
 intro s a s' hs h;simp only[Sp.qdf]at h;split at h
 ·injection h with h;subst h;simpa using hs
 ·cases h
theorem qia(f:Fn):∀s a s',(s.1.length=f.qab.length/\s.2.length=f.qab.length)->Sp.qcl f s a=some s'->(s'.1.length=f.qab.length/\s'.2.length=f.qab.length):=by
 intro s a s' hs h;simp only[Sp.qcl]at h;split at h
 ·injection h with h;subst h;unfold Sp.mark;split<;>simpa using hs
 ·cases h
theorem qg9{σ α:Type}{g:σ->α->Option σ}{I:σ->Prop}(h:∀s a s',I s->g s a=some s'->I s'):∀(l:List α) (s s':σ),I s->qdg g l s=some s'->I s'
 |[],s,s',hi,e=>by injection e with e;exact e▸hi
 |a::l,s,s',hi,e=>by
  simp only[qdg]at e;cases hg:g s a with
  |none=>rw[hg]at e;cases e
  |some s1=>rw[hg]at e;exact qg9 h l s1 s' (h s a s1 hi hg) e
theorem q5k(op:Int):Sp.arity op<=3:=by
 unfold Sp.arity
 repeat' split
 all_goals decide
section
variable {f:Fn} {b:Block} {d k:List Bool} {i:Int}
theorem zcp(f:Fn)(hw:f.qab.length<=65536):qap go18_l1 (((),(),(f.qab.length:Int),0,()),f,[],())=some (((),(),()),f,List.replicate f.qab.length false,()):=by
 unfold go18_l1;refine qct (st:=fun i=>(((),(),(f.qab.length:Int),(i:Int),()),f,List.replicate i false,())) rfl f.qab.length (fun i hi=>?_) ?_
 ·have hl:(List.replicate i false).length=i:=zia;simp(maxSteps:=1000000) (disch:=((try dsimp only);omega)) only[↓gsA,gsB]
  rw[List.replicate_succ']
 ·simp(maxSteps:=1000000) (disch:=((try dsimp only);omega)) only[↓gsA,gsB]
theorem zco(hw:f.qab.length<=65536):qap go18_l3 (((),(),i,(),(),(f.qab.length:Int),0,()),f,d,b,[],())=some (((),(),i,(),(),()),f,d,b,List.replicate f.qab.length false,()):=by
 unfold go18_l3;refine qct (st:=fun j=>(((),(),i,(),(),(f.qab.length:Int),(j:Int),()),f,d,b,List.replicate j false,())) rfl f.qab.length (fun j hj=>?_) ?_
 ·have hl:(List.replicate j false).length=j:=zia;simp(maxSteps:=1000000) (disch:=((try dsimp only);omega)) only[↓gsA,gsB]
  rw[List.replicate_succ']
 ·simp(maxSteps:=1000000) (disch:=((try dsimp only);omega)) only[↓gsA,gsB]
theorem qz4(hb:b.ok)(hd:d.length=f.qab.length)(hk:k.length=f.qab.length):qap go18_l4 (((),(),i,(),(),0,()),f,d,b,k,()) =
  some (qdz (qdg (Sp.qdf f) b.params (d,k)) (fun s=>.inl (((),(),i,(),(),()),f,s.1,b,s.2,())) (.inr ((false,()),()))):=by
 have hp:b.params.length<=LEN:=hb.1.len;rw[qc6]at hp;unfold go18_l4;refine qh2 (l:=b.params) 0 (Sp.qdf f) (fun s=>s.1.length=f.qab.length/\s.2.length=f.qab.length) (st:=fun j s=>(((),(),i,(),(),(j:Int),()),f,s.1,b,s.2,())) (s0:=(d,k)) rfl ⟨hd,hk⟩ (qh7 f) _ _ (fun j s hj hs=>?_) (fun s hs=>?_)
 ·obtain⟨h1,h2⟩:=hs;unfold Sp.qdf;simp(maxSteps:=1000000) (disch:=((try dsimp only);omega)) only[↓gsA,gsB]
  cases hw:Sp.within f (b.params.getD j 0)with
  |false=>simp[qdz]
  |true=>
   obtain⟨q1,q2⟩:=within_iff.1 hw;simp(maxSteps:=1000000) (disch:=((try dsimp only);omega)) only[↓gsA,gsB]
   cases hx:s.1.getD (b.params.getD j 0).toNat false with
   |true=>simp[qdz]
   |false=>
    simp(maxSteps:=1000000) (disch:=((try dsimp only);omega)) only[↓gsA,gsB]
    simp[qdz]
 ·simp(maxSteps:=1000000) (disch:=((try dsimp only);omega)) only[↓gsA,gsB]
theorem zca{x:qau}{j:Nat}(hj:j<=4096)(hd:d.length=f.qab.length)(hk:k.length=f.qab.length)(hp:Sp.qmr f x):go18_j2 go18_j1 (((),(),i,(),(),(j:Int),(),()),f,d,b,k,x,()) =
  some (if Sp.qd3 f x=true then .inl (((),(),i,(),(),((j+1:Nat):Int),()),f,(Sp.mark (d,k) x).1,b,(Sp.mark (d,k) x).2,())else .inr (.inr ((false,()),()))):=by
 unfold go18_j2 go18_j1;rw[qas hp];unfold Sp.mark;simp(maxSteps:=1000000) (disch:=((try dsimp only);omega)) only[↓gsA,gsB]
 cases h1:Sp.qd3 f x with
 |false=>rfl
 |true=>
  cases h2:Sp.result x.op with
  |false=>
   simp(maxSteps:=1000000) (disch:=((try dsimp only);omega)) only[↓gsA,gsB]
  |true=>
   obtain⟨h3,h4⟩:=hp.2.2 h2;simp(maxSteps:=1000000) (disch:=((try dsimp only);omega)) only[↓gsA,gsB]
theorem q0x(hf:f.ok)(hb:b.ok)(hlim:b.insts.length<=4096)(hd:d.length=f.qab.length)(hk:k.length=f.qab.length):qap go18_l5 (((),(),i,(),(),0,()),f,d,b,k,()) =
  some (qdz (qdg (Sp.qcl f) b.insts (d,k)) (fun s=>.inl (((),(),i,(),(),()),f,s.1,b,s.2,())) (.inr ((false,()),()))):=by
 unfold go18_l5;refine qh2 (l:=b.insts) qau.z (Sp.qcl f) (fun s=>s.1.length=f.qab.length/\s.2.length=f.qab.length) (st:=fun j s=>(((),(),i,(),(),(j:Int),()),f,s.1,b,s.2,())) (s0:=(d,k)) rfl ⟨hd,hk⟩ (qia f) _ _ (fun j s hj hs=>?_) (fun s hs=>?_)
 ·obtain⟨h1,h2⟩:=hs;have hx:(b.insts.getD j qau.z).ok:=qic hb.2.1 _ hj;have hal:(b.insts.getD j qau.z).args.length<=LEN:=hx.2.2.1.len;simp(maxSteps:=1000000) (disch:=((try dsimp only);omega)) only[↓gsA,gsB]
  generalize b.insts.getD j qau.z=x at *;unfold Sp.qcl;by_cases h3:Sp.arity x.op=x.args.length
  rotate_left
  ·simp[h3,qdz]
  cases h4:Sp.used f x.args s.2 with
  |false=>simp[h3,qdz]
  |true=>
   simp(maxSteps:=1000000) (disch:=((try dsimp only);omega)) only[↓gsA,gsB]
   have pre:(Sp.result x.op=true->0<=x.dest/\x.dest<f.qab.length)->Sp.qmr f x:=fun hr=>⟨by have:=q5k x.op;omega,fun n hn=>⟨(qf7 h4 hn).1,(qf7 h4 hn).2.1⟩,hr⟩
   cases h5:Sp.result x.op with
   |false=>
    simp(maxSteps:=1000000) (disch:=((try dsimp only);omega)) only[↓gsA,gsB]
    rw[zca (by omega) h1 h2 (pre (fun h=>by rw[h5]at h;cases h))]
    by_cases h6:x.dest=-1
    ·cases h7:Sp.qd3 f x<;>simp[Sp.qf4,h5,h6,h3,qdz,h7]
    ·simp[Sp.qf4,h5,h6,qdz]
   |true=>
    cases h6:Sp.within f x.dest with
    |false=>simp[Sp.qf4,h5,h6,qdz]
    |true=>
     obtain⟨q1,q2⟩:=within_iff.1 h6;simp(maxSteps:=1000000) (disch:=((try dsimp only);omega)) only[↓gsA,gsB]
     rw[zca (by omega) h1 h2 (pre (fun _=>⟨q1,q2⟩))];cases h8:s.1.getD x.dest.toNat false with
     |true=>
      rw[zg0]at h8;simp[Sp.qf4,h5,h6,qdz,h8]
     |false=>
      rw[zg0]at h8;cases h7:Sp.qd3 f x<;>simp[Sp.qf4,h5,h6,h3,qdz,h7,h8]
 ·simp(maxSteps:=1000000) (disch:=((try dsimp only);omega)) only[↓gsA,gsB]
theorem qt9(f:Fn):∀d b d',d.length=f.qab.length->Sp.qcp f d b=some d'->d'.length=f.qab.length:=by
 intro d b d' hd h;simp only[Sp.qcp]at h;split at h
 ·split at h
  ·rename_i s1 h1;have i1:=qg9 (qh7 f) _ _ _ ⟨hd,zia⟩ h1;split at h
   ·rename_i s2 h2;have i2:=qg9 (qia f) _ _ _ i1 h2;split at h
    ·injection h with h;subst h;exact i2.1
    ·cases h
   ·cases h
  ·cases h
 ·cases h
theorem q19(hf:f.ok)(hw:f.qab.length<=65536)(hbl:f.blocks.length<=1024):qap go18_l2 (((),(),0,()),f,List.replicate f.qab.length false,()) =
  some (qdz (qdg (Sp.qcp f) f.blocks (List.replicate f.qab.length false)) (fun _=>.inl ((),())) (.inr ((false,()),()))):=by
 unfold go18_l2;refine qh2 (l:=f.blocks) Block.z (Sp.qcp f) (fun d=>d.length=f.qab.length) (st:=fun j d=>(((),(),(j:Int),()),f,d,())) rfl zia (qt9 f) _ _ (fun j d hj hd=>?_) (fun s hs=>?_)
 ·have hbk:(f.blocks.getD j Block.z).ok:=Fn.q6m hf hj;simp(maxSteps:=1000000) (disch:=((try dsimp only);omega)) only[↓gsA,gsB]
  generalize f.blocks.getD j Block.z=b at *;unfold Sp.qcp Sp.q0l;by_cases a1:4096<(b.insts.length:Int)
  ·simp[a1,qdz]
  by_cases a2:b.qar<0
  ·simp[a2,qdz,a1]
  by_cases a3:256<b.qar
  ·simp[a3,qdz,a1,a2]
  by_cases a4:b.qba<0
  ·simp[a4,qdz,a1,a2,a3]
  by_cases a5:64<b.qba
  ·simp[a5,qdz,a1,a2,a3,a4]
  by_cases a6:b.line<0
  ·simp[a6,qdz,a1,a2,a3,a4,a5]
  by_cases a7:2147483647<b.line
  ·simp[a7,qdz,a1,a2,a3,a4,a5,a6]
  rw[if_neg a1,if_neg a2,if_neg a3,if_neg a4,if_neg a5,if_neg a6,if_neg a7];have hlim:(!decide (4096<(b.insts.length:Int))&&!decide (b.qar<0)&&!decide (256<b.qar)&&!decide (b.qba<0)&&!decide (64<b.qba)&&!decide (b.line<0)&&!decide (2147483647<b.line))=true:=by
   simp[a1,a2,a3,a4,a5,a6,a7]
  rw[if_pos hlim];refine qbj (zco hw) ?_;refine qbj (qz4 hbk hd zia) ?_;cases h1:qdg (Sp.qdf f) b.params (d,List.replicate f.qab.length false)with
  |none=>rfl
  |some s1=>
   have i1:=qg9 (qh7 f) _ _ _ ⟨hd,zia⟩ h1;show qjo _ _ (Sum.inl _)=_;rw[qeh];refine qbj (q0x hf hbk (show b.insts.length<=4096 by omega) i1.1 i1.2) ?_;cases h2:qdg (Sp.qcl f) b.insts s1 with
   |none=>simp only[h2,qdz,qfb]
   |some s2=>
    have i2:=qg9 (qia f) _ _ _ i1 h2;simp only[h2,qdz,qeh];rw[qas ⟨hf,hbk.2.2.1,i2.2⟩];show(bif Sp.qdl f b.term s2.2 then _ else _)=_;cases h3:Sp.qdl f b.term s2.2 with
    |false=>rfl
    |true=>
     simp(maxSteps:=1000000) (disch:=((try dsimp only);omega)) only[↓gsA,gsB]
 ·simp(maxSteps:=1000000) (disch:=((try dsimp only);omega)) only[↓gsA,gsB]
theorem ok18(f:Fn)(hf:f.ok):go18 f=some (Sp.valid f,()):=by
 have hwl:f.qab.length<=LEN:=hf.2.1.len;have hrl:f.qa4.length<=LEN:=hf.2.2.2.2.1.len;have hns:f.name.size<=9223372036854775807:=hf.1;unfold go18;rw[qas hns,qas hf,qas hwl,qas hrl];unfold Sp.valid Sp.qr7;simp(maxSteps:=1000000) (disch:=((try dsimp only);omega)) only[↓gsA,gsB]
 cases h1:Sp.ident f.name with
 |false=>rfl
 |true=>
  cases h2:Sp.qpz f with
  |false=>rfl
  |true=>
   cases h3:Sp.qab f.qab 65536 with
   |false=>rfl
   |true=>
    cases h4:Sp.qab f.qa4 64 with
    |false=>rfl
    |true=>
     have hw:f.qab.length<=65536:=by
      simp only[Sp.qab,zgz,decide_eq_true_eq]at h3;omega
     by_cases h5:(f.blocks.length:Int)<1
     ·simp(maxSteps:=1000000) (disch:=((try dsimp only);omega)) only[↓gsA,gsB]
      rw[decide_eq_true h5];rfl
     by_cases h6:1024<(f.blocks.length:Int)
     ·simp(maxSteps:=1000000) (disch:=((try dsimp only);omega)) only[↓gsA,gsB]
      rw[decide_eq_true h6,decide_eq_false h5];rfl
     simp(maxSteps:=1000000) (disch:=((try dsimp only);omega)) only[↓gsA,gsB]
     refine qbj (zcp f hw) ?_;refine qbj (q19 hf hw (show f.blocks.length<=1024 by omega)) ?_;rw[decide_eq_false h5,decide_eq_false h6];cases qdg (Sp.qcp f) f.blocks (List.replicate f.qab.length false)<;>rfl
end
def c18:Ctr Try.prog:=qcn 18 Try.f18 Try.func18 [c14,c44,c45,c46,c47,c48,c49,c50,c51] ann18 [(0,(.st 6))] [] .b [] (fun x _=>grd (okB x.1.ok) (some (Sp.valid x.1,()))) (fun x _ r h=>FO (run18 x.1) (ok18 x.1) h)
end
end Go.Abs
namespace Go.Abs
open Go Go.Proofs
noncomputable section
def zdt:List (Nat×Sh):=[(0,(.st 6)),(1,(.i .i64)),(2,(.full 0))]
def zdg:List OSh:=[(.lst 3 (.int .i64))]
def zem:List OSh:=[.dead,(.lst 3 (.int .i64))]
@[reducible] def D69:Type:=(Fn×(Int×(Unit×Unit)))->(List Int×Unit)->Option (Unit×(Unit×(List Int×Unit)))
def zfn(G:D69):Prop:=∀(x:DT zdt) (y:DO zdg) r,G x y=some r->CT Try.prog 69 (qc2 zdt x) (mkH 1 zdg y) (fun v H'=>v=mkE (.full 1) r.1/\H'=mkH 1 zem r.2)
def zgr(G:D69)(h:zfn G):Ctr Try.prog:=⟨69,inferInstance,zdt,zdg,.full 1,zem,G,h⟩
end
end Go.Abs
namespace Go.Abs
open Go Go.Proofs
noncomputable section
theorem qe3{σ α:Type}{g:σ->α->Option σ}:∀(l:List α) (s s':σ),qdg g l s=some s'->∀a∈l,∃s1 s2,g s1 a=some s2
 |[],s,s',h,a,ha=>by cases ha
 |b::l,s,s',h,a,ha=>by
  simp only[qdg]at h;cases hg:g s b with
  |none=>rw[hg]at h;cases h
  |some s1=>
   rw[hg]at h;rcases zhr.1 ha with rfl|ha
   ·exact⟨s,s1,hg⟩
   ·exact qe3 l s1 s' h a ha
end
end Go.Abs
namespace Go.Abs
open Go Go.Proofs
noncomputable section
def go54_l1:(((List Int)×ty9)×Unit)->Option ((((List Int)×ty9)×Unit)⊕ty8):=(fun r0=>(bif(decide (r0.1.2.2.2.1<r0.1.2.2.1))then(grd (okB ((0<=r0.1.2.2.2.1)/\(r0.1.2.2.2.1<(r0.1.1.length:Int)))) (grd (okB ((0<=r0.1.2.2.2.1)/\(r0.1.2.2.2.1<(r0.1.2.1.length:Int)))) (bif(!(decide ((r0.1.1.getD r0.1.2.2.2.1.toNat 0)=(r0.1.2.1.getD r0.1.2.2.2.1.toNat 0))))then(some (Sum.inr (Sum.inr ((false,()),()))))else(grd (okB (((-9223372036854775808)<=(r0.1.2.2.2.1+1))/\((r0.1.2.2.2.1+1)<=9223372036854775807))) (some (Sum.inl ((r0.1.1,(r0.1.2.1,(r0.1.2.2.1,((r0.1.2.2.2.1+1),())))),())))))))else(some (Sum.inr (Sum.inl ((),()))))))
def go54(x0:(List Int))(x1:(List Int)):(Option (Bool×Unit)):=(bif(!(decide ((x0.length:Int)=(x1.length:Int))))then(some (false,()))else(qak (qap (go54_l1) ((x0,(x1,((x0.length:Int),(0,())))),())) (fun z0=>(qjo (fun z1=>(some (true,()))) (fun z1=>(some (z1.1.1,()))) z0))))
def ann39:Ann:=(.seq .o (.join ⟨[(0,(.fz (.int .i64))),(1,(.fz (.int .i64)))],[]⟩ (.seq .o (.cond (.seq .o .o) .o)) (.join ⟨[],[]⟩ (.seq .o (.block (.loop sh53 [((.exit 0),⟨[],[]⟩),(.ret,⟨[(4,.b)],[]⟩)] (.join sh53 (.seq .o (.cond .o .o)) (.join sh53 (.block (.seq .o (.cond (.seq .o .o) .o))) .o))))) (.seq .o .o))))
def go39_l1:(((List Int)×ty16)×Unit)->Option ((((List Int)×ty16)×Unit)⊕ty8):=(fun r0=>(bif(decide (r0.1.2.2.1<(r0.1.1.length:Int)))then(grd (okB ((0<=r0.1.2.2.1)/\(r0.1.2.2.1<(r0.1.1.length:Int)))) (grd (okB ((0<=r0.1.2.2.1)/\(r0.1.2.2.1<(r0.1.2.1.length:Int)))) (bif(!(decide ((r0.1.1.getD r0.1.2.2.1.toNat 0)=(r0.1.2.1.getD r0.1.2.2.1.toNat 0))))then(some (Sum.inr (Sum.inr ((false,()),()))))else(grd (okB (((-9223372036854775808)<=(r0.1.2.2.1+1))/\((r0.1.2.2.1+1)<=9223372036854775807))) (some (Sum.inl ((r0.1.1,(r0.1.2.1,((r0.1.2.2.1+1),()))),())))))))else(some (Sum.inr (Sum.inl ((),()))))))
def go39(x0:(List Int))(x1:(List Int)):(Option (Bool×Unit)):=(bif(!(decide ((x0.length:Int)=(x1.length:Int))))then(some (false,()))else(qak (qap (go39_l1) ((x0,(x1,(0,()))),())) (fun z0=>(qjo (fun z1=>(some (true,()))) (fun z1=>(some (z1.1.1,()))) z0))))
theorem run39(x0:(List Int))(x1:(List Int)):qei (P:=Try.prog) [] Try.f39 ann39 [(0,(.fz (.int .i64))),(1,(.fz (.int .i64)))] [] .b [] (x0,(x1,())) ()=go39 x0 x1:=by kernel_rfl
def ann41:Ann:=(.seq .o (.join ⟨[],[]⟩ (.seq .o (.block (.loop sh25 [((.exit 0),⟨[],[]⟩),(.ret,⟨[(4,.b)],[]⟩)] (.join sh25 (.seq .o (.cond .o .o)) (.join sh25 (.block (.seq .o (.cond (.seq .o .o) .o))) .o))))) (.seq .o .o)))
def go41_l1:(ty9×Unit)->Option ((ty9×Unit)⊕ty8):=(fun r0=>(bif(decide (r0.1.2.2.1<(r0.1.1.length:Int)))then(grd (okB ((0<=r0.1.2.2.1)/\(r0.1.2.2.1<(r0.1.1.length:Int)))) (bif(decide ((r0.1.1.getD r0.1.2.2.1.toNat 0)=r0.1.2.1))then(some (Sum.inr (Sum.inr ((true,()),()))))else(grd (okB (((-9223372036854775808)<=(r0.1.2.2.1+1))/\((r0.1.2.2.1+1)<=9223372036854775807))) (some (Sum.inl ((r0.1.1,(r0.1.2.1,((r0.1.2.2.1+1),()))),()))))))else(some (Sum.inr (Sum.inl ((),()))))))
def go41(x0:(List Int))(x1:Int):(Option (Bool×Unit)):=(qak (qap (go41_l1) ((x0,(x1,(0,()))),())) (fun z0=>(qjo (fun z1=>(some (false,()))) (fun z1=>(some (z1.1.1,()))) z0)))
theorem run41(x0:(List Int))(x1:Int):qei (P:=Try.prog) [] Try.f41 ann41 [(0,(.fz (.int .i64))),(1,(.i .i64))] [] .b [] (x0,(x1,())) ()=go41 x0 x1:=by kernel_rfl
theorem all_eq{x y:List Int}(h:x.length=y.length):(List.range x.length).all (fun i=>decide (x.getD i 0=y.getD i 0))=decide (x=y):=by
 rw[Bool.eq_iff_iff];simp only[zhm,zif,decide_eq_true_eq]
 constructor
 ·intro k;refine zih h fun i h1 h2=>?_;have:=k i h1;simpa[zg0,h1,h2]using this
 ·rintro rfl i _;rfl
theorem ok54(x y:List Int)(hx:x.length<=LEN):go54 x y=some (decide (x=y),()):=by
 rw[qc6]at hx;unfold go54 go54_l1;by_cases h:(x.length:Int)=y.length
 ·have h':x.length=y.length:=by omega
  simp(maxSteps:=1000000) (disch:=((try dsimp only);omega)) only[↓gsA,gsB]
  refine qbj (qbg (l:=List.range x.length) (st:=fun i=>((x,y,((x.length:Nat):Int),(i:Int),()),())) rfl 0 (fun i=>decide (x.getD i 0=y.getD i 0)) (A:=.inl ((),())) (B:=.inr ((false,()),())) (fun i hi hp=>?_) (fun i hi hp=>?_) (fun _=>?_)) ?_
  ·rw[zhd]at hi;rw[qa7 hi]at hp;have hp:=of_decide_eq_true hp;simp(maxSteps:=1000000) (disch:=((try dsimp only);omega)) only[↓gsA,gsB]
  ·rw[zhd]at hi;rw[qa7 hi]at hp;have hp:=of_decide_eq_false hp;simp(maxSteps:=1000000) (disch:=((try dsimp only);omega)) only[↓gsA,gsB]
  ·rw[zhd];simp(maxSteps:=1000000) (disch:=((try dsimp only);omega)) only[↓gsA,gsB]
  ·rw[all_eq h'];by_cases e:x=y
   ·rw[decide_eq_true e];rfl
   ·rw[decide_eq_false e];rfl
 ·have e:x≠y:=fun e=>h (by rw[e]);rw[decide_eq_false e];simp(maxSteps:=1000000) (disch:=((try dsimp only);omega)) only[↓gsA,gsB]
theorem ok39(x y:List Int)(hx:x.length<=LEN):go39 x y=some (decide (x=y),()):=by
 rw[qc6]at hx;unfold go39 go39_l1;by_cases h:(x.length:Int)=y.length
 ·have h':x.length=y.length:=by omega
  simp(maxSteps:=1000000) (disch:=((try dsimp only);omega)) only[↓gsA,gsB]
  refine qbj (qbg (l:=List.range x.length) (st:=fun i=>((x,y,(i:Int),()),())) rfl 0 (fun i=>decide (x.getD i 0=y.getD i 0)) (A:=.inl ((),())) (B:=.inr ((false,()),())) (fun i hi hp=>?_) (fun i hi hp=>?_) (fun _=>?_)) ?_
  ·rw[zhd]at hi;rw[qa7 hi]at hp;have hp:=of_decide_eq_true hp;simp(maxSteps:=1000000) (disch:=((try dsimp only);omega)) only[↓gsA,gsB]
  ·rw[zhd]at hi;rw[qa7 hi]at hp;have hp:=of_decide_eq_false hp;simp(maxSteps:=1000000) (disch:=((try dsimp only);omega)) only[↓gsA,gsB]
  ·rw[zhd];simp(maxSteps:=1000000) (disch:=((try dsimp only);omega)) only[↓gsA,gsB]
  ·rw[all_eq h'];by_cases e:x=y
   ·rw[decide_eq_true e];rfl
   ·rw[decide_eq_false e];rfl
 ·have e:x≠y:=fun e=>h (by rw[e]);rw[decide_eq_false e];simp(maxSteps:=1000000) (disch:=((try dsimp only);omega)) only[↓gsA,gsB]
def c39:Ctr Try.prog:=qcn 39 Try.f39 Try.func39 [] ann39 [(0,(.fz (.int .i64))),(1,(.fz (.int .i64)))] [] .b [] (fun x _=>grd (okB (x.1.length<=LEN)) (some (decide (x.1=x.2.1),()))) (fun x _ r h=>FO (run39 x.1 x.2.1) (ok39 x.1 x.2.1) h)
theorem ok41(l:List Int)(v:Int)(hl:l.length<=LEN):go41 l v=some (!(l.all fun x=>!decide (x=v)),()):=by
 rw[qc6]at hl;unfold go41 go41_l1;refine qbj (qbg (l:=l) (st:=fun i=>((l,v,(i:Int),()),())) rfl 0 (fun x=>!decide (x=v)) (A:=.inl ((),())) (B:=.inr ((true,()),())) (fun i hi hp=>?_) (fun i hi hp=>?_) (fun _=>?_)) ?_
 ·have hp:¬ l.getD i 0=v:=by simpa using hp
  simp(maxSteps:=1000000) (disch:=((try dsimp only);omega)) only[↓gsA,gsB]
 ·have hp:l.getD i 0=v:=by simpa using hp
  simp(maxSteps:=1000000) (disch:=((try dsimp only);omega)) only[↓gsA,gsB]
 ·simp(maxSteps:=1000000) (disch:=((try dsimp only);omega)) only[↓gsA,gsB]
 ·cases l.all (fun x=>!decide (x=v))<;>rfl
def c41:Ctr Try.prog:=qcn 41 Try.f41 Try.func41 [] ann41 [(0,(.fz (.int .i64))),(1,(.i .i64))] [] .b [] (fun x _=>grd (okB (x.1.length<=LEN)) (some (!(x.1.all fun y=>!decide (y=x.2.1)),()))) (fun x _ r h=>FO (run41 x.1 x.2.1) (ok41 x.1 x.2.1) h)
end
end Go.Abs
namespace Go.Abs
open Go Go.Proofs
noncomputable section
def q5l:List (Nat×Sh):=[(0,(.i .i64)),(1,(.ptr 0 0)),(2,(.ptr 1 0)),(3,(.ptr 2 0)),(4,(.ptr 3 0))]
def q4d:List OSh:=[(.cells 69 [(.full 4)]),(.cells 25 [(.full 5)]),(.box 30 (.st 6)),(.cells 120 [(.fn 101 [(.ptr 0 0),(.ptr 1 0),(.ptr 2 0),(.ptr 3 0)])]),(.lst 4 .bool),(.lst 3 (.int .i64))]
def q7y:List OSh:=[(.cells 69 [(.full 4)]),(.cells 25 [(.full 6)]),(.box 30 (.st 6)),(.cells 120 [(.fn 101 [(.ptr 0 0),(.ptr 1 0),(.ptr 2 0),(.ptr 3 0)])]),(.lst 4 .bool),.dead,(.lst 3 (.int .i64))]
@[reducible] def q98:Type:=(Int×(Unit×(Unit×(Unit×(Unit×Unit)))))->((Unit×Unit)×((Unit×Unit)×(Fn×(((Unit×(Unit×(Unit×(Unit×Unit))))×Unit)×(List Bool×(List Int×Unit))))))->Option (Unit×((Unit×Unit)×((Unit×Unit)×(Fn×(((Unit×(Unit×(Unit×(Unit×Unit))))×Unit)×(List Bool×(Unit×(List Int×Unit))))))))
def q9y(G:q98):Prop:=∀(x:DT q5l) (y:DO q4d) r,G x y=some r->CT Try.prog 101 (qc2 q5l x) (mkH 6 q4d y) (fun v H'=>v=mkE (.tup []) r.1/\H'=mkH 6 q7y r.2)
def zew(G:q98)(h:q9y G):Ctr Try.prog:=⟨101,inferInstance,q5l,q4d,.tup [],q7y,G,h⟩
end
end Go.Abs
namespace Go.Abs
open Go Go.Proofs
noncomputable section
def ann101:Ann:=(.join ⟨[(0,(.i .i64)),(1,(.ptr 0 0)),(2,(.ptr 1 0)),(3,(.ptr 2 0)),(4,(.ptr 3 0))],[(.cells 69 [(.full 4)]),(.cells 25 [(.full 5)]),(.box 30 (.st 6)),(.cells 120 [(.fn 101 [(.ptr 0 0),(.ptr 1 0),(.ptr 2 0),(.ptr 3 0)])]),(.lst 4 .bool),(.lst 3 (.int .i64))]⟩ (.seq .o (.cond .o .o)) (.seq .o (.seq .o (.seq .o (.block (.loop sh54 [((.exit 0),⟨[],sh66⟩)] (.seq .o (.join sh54 (.cond .o .o) (.join sh54 (.block (.seq .o .o)) .o)))))))))
def go101_l1(G:q98):((Unit×((List Edge)×(Int×(Int×Unit))))×ty4)->Option (((Unit×((List Edge)×(Int×(Int×Unit))))×ty4)⊕(Unit×ty4)):=(fun r0=>(bif(decide (r0.1.2.2.2.1<r0.1.2.2.1))then(grd (okB ((0<=r0.1.2.2.2.1)/\(r0.1.2.2.2.1<(r0.1.2.1.length:Int)))) (qak (G ((r0.1.2.1.getD r0.1.2.2.2.1.toNat Edge.z).block,((),((),((),((),()))))) (((),()),(((),()),(r0.2.2.2.1,((((),((),((),((),())))),()),(r0.2.2.2.2.2.1,(r0.2.2.2.2.2.2.2.1,()))))))) (fun r1=>(grd ((decide ((1:Nat)=1))&&((decide ((1:Nat)=1))&&((decide (1=1))&&((decide ((1:Nat)=1))&&((decide (r1.2.2.2.2.2.1.length=r0.2.2.2.2.2.1.length))&&true))))) (grd (okB (((-9223372036854775808)<=(r0.1.2.2.2.1+1))/\((r0.1.2.2.2.1+1)<=9223372036854775807))) (some (Sum.inl (((),(r0.1.2.1,(r0.1.2.2.1,((r0.1.2.2.2.1+1),())))),(((),()),(((),()),(r1.2.2.2.1,((((),((),((),((),())))),()),(r1.2.2.2.2.2.1,((),(r1.2.2.2.2.2.2.2.1,())))))))))))))))else(some (Sum.inr ((),(((),()),(((),()),(r0.2.2.2.1,((((),((),((),((),())))),()),(r0.2.2.2.2.2.1,((),(r0.2.2.2.2.2.2.2.1,()))))))))))))
def go101(G:q98)(x0:Int)(y0:(Unit×Unit))(y1:(Unit×Unit))(y2:Fn)(y3:((Unit×(Unit×(Unit×(Unit×Unit))))×Unit))(y4:(List Bool))(y5:(List Int)):(Option (Unit×ty4)):=(bif(decide (x0<0))then(some ((),(((),()),(((),()),(y2,((((),((),((),((),())))),()),(y4,((),(y5,())))))))))else(bif(decide ((y4.length:Int)<=x0))then(some ((),(((),()),(((),()),(y2,((((),((),((),((),())))),()),(y4,((),(y5,())))))))))else(grd (okB ((0<=x0)/\(x0<(y4.length:Int)))) (grd (Nat.blt x0.toNat y4.length) (bif(y4.getD x0.toNat false)then(some ((),(((),()),(((),()),(y2,((((),((),((),((),())))),()),(y4,((),(y5,())))))))))else(grd (okB ((0<=x0)/\(x0<(y4.length:Int)))) (grd (Nat.blt x0.toNat y4.length) (grd (okB ((((y5.length+1)*8)<=140737488355328)/\((y5.length+1)<=281474976710656))) (grd (okB ((0<=x0)/\(x0<(y2.blocks.length:Int)))) (qak (qap (go101_l1 G) (((),((y2.blocks.getD x0.toNat Block.z).term.to,((((y2.blocks.getD x0.toNat Block.z).term.to.length:Nat):Int),(0,())))),(((),()),(((),()),(y2,((((),((),((),((),())))),()),((y4.set x0.toNat true),((),((y5++(x0::([]:List Int))),()))))))))) (fun z0=>(some ((),(((),()),(((),()),(z0.2.2.2.1,((((),((),((),((),())))),()),(z0.2.2.2.2.2.1,((),(z0.2.2.2.2.2.2.2.1,()))))))))))))))))))))
theorem run101(G:q98)(hG:(q9y G))(x0:Int)(y0:(Unit×Unit))(y1:(Unit×Unit))(y2:Fn)(y3:((Unit×(Unit×(Unit×(Unit×Unit))))×Unit))(y4:(List Bool))(y5:(List Int)):qei (P:=Try.prog) [zew G hG] Try.f101 ann101 [(0,(.i .i64)),(1,(.ptr 0 0)),(2,(.ptr 1 0)),(3,(.ptr 2 0)),(4,(.ptr 3 0))] [(.cells 69 [(.full 4)]),(.cells 25 [(.full 5)]),(.box 30 (.st 6)),(.cells 120 [(.fn 101 [(.ptr 0 0),(.ptr 1 0),(.ptr 2 0),(.ptr 3 0)])]),(.lst 4 .bool),(.lst 3 (.int .i64))] (.tup []) [(.cells 69 [(.full 4)]),(.cells 25 [(.full 6)]),(.box 30 (.st 6)),(.cells 120 [(.fn 101 [(.ptr 0 0),(.ptr 1 0),(.ptr 2 0),(.ptr 3 0)])]),(.lst 4 .bool),.dead,(.lst 3 (.int .i64))] (x0,((),((),((),((),()))))) (y0,(y1,(y2,(y3,(y4,(y5,()))))))=go101 G x0 y0 y1 y2 y3 y4 y5:=by kernel_rfl
def zc8:Nat->q98
 |0=>fun _ _=>none
 |n+1=>fun x y=>go101 (zc8 n) x.1 y.1 y.2.1 y.2.2.1 y.2.2.2.1 y.2.2.2.2.1 y.2.2.2.2.2.1
theorem q6n:∀n,q9y (zc8 n)
 |0=>fun x y r h=>by cases h
 |n+1=>fun x y r h=>by
  have h1:=run101 (zc8 n) (q6n n) x.1 y.1 y.2.1 y.2.2.1 y.2.2.2.1 y.2.2.2.2.1 y.2.2.2.2.2.1;exact CT.of Try.func101 (h1.trans h)
def Sp.visit(f:Fn):Nat->Int->List Bool×List Int->List Bool×List Int
 |0,_,s=>s
 |n+1,b,s=>if b<0\/(s.1.length:Int)<=b then s else if s.1.getD b.toNat false then s else
   (f.blocks.getD b.toNat Block.z).term.to.foldl (fun s e=>Sp.visit f n e.block s) (s.1.set b.toNat true,s.2++[b])
def qbk(l:List Bool):Nat:=l.count false
theorem qfr{l:List Bool}{i:Nat}(h:i<l.length)(hf:l.getD i false=false):qbk (l.set i true)+1=qbk l:=by
 induction l generalizing i with
 |nil=>simp at h
 |cons a l ih=>
  cases i with
  |zero=>
   have:a=false:=by simpa using hf
   subst this;simp[qbk]
  |succ i=>
   have h1:=ih (i:=i) (by simpa using h) (by simpa using hf);simp only[qbk,List.set_cons_succ,List.count_cons]at h1 ⊢;omega
theorem qeb{α β:Type}(P:β->Prop)(g:β->α->β)(h:∀s a,P s->P (g s a)):∀(l:List α) (s:β),P s->P (l.foldl g s)
 |[],_,hs=>hs
 |a::l,s,hs=>qeb P g h l (g s a) (h s a hs)
theorem qeu(f:Fn):∀(n:Nat) (b:Int) (s:List Bool×List Int),(Sp.visit f n b s).1.length=s.1.length/\(Sp.visit f n b s).2.length+qbk (Sp.visit f n b s).1=s.2.length+qbk s.1/\qbk (Sp.visit f n b s).1<=qbk s.1
 |0,b,s=>⟨rfl,rfl,zg3 _⟩
 |n+1,b,s=>by
  unfold Sp.visit;split
  ·exact⟨rfl,rfl,zg3 _⟩
  ·rename_i hb;split
   ·exact⟨rfl,rfl,zg3 _⟩
   ·rename_i hs;have hlt:b.toNat<s.1.length:=by omega
    have hu:=qfr hlt (by simpa using hs);refine qeb (fun r:List Bool×List Int=>r.1.length=s.1.length/\r.2.length+qbk r.1=s.2.length+qbk s.1/\qbk r.1<=qbk s.1) _ (fun r e hr=>?_) _ _ ⟨by simp,by simp only[zg6,List.length_singleton];omega,by simp only;omega⟩
    obtain⟨h1,h2,h3⟩:=qeu f n e.block r;exact⟨h1.trans hr.1,h2.trans hr.2.1,zhy h3 hr.2.2⟩
def qw3(f:Fn)(s:List Bool×List Int):(Unit×((Unit×Unit)×((Unit×Unit)×(Fn×(((Unit×(Unit×(Unit×(Unit×Unit))))×Unit)×((List Bool)×(Unit×((List Int)×Unit)))))))):=
 ((),(((),()),(((),()),(f,((((),((),((),((),())))),()),(s.1,((),(s.2,()))))))))
theorem qlo{α:Type}{l:List α}{k:Nat}(h:k<l.length)(z:α):l.take (k+1)=l.take k++[l.getD k z]:=by
 rw[List.take_succ_eq_append_getElem h,zg0,zhb h,zhi]
theorem q2m(f:Fn)(hf:f.ok):∀(n:Nat) (b:Int) (s:List Bool×List Int),qbk s.1<n->s.1.length=f.blocks.length->s.2.length+qbk s.1<=f.blocks.length ->
  zc8 n (b,((),((),((),((),()))))) (((),()),(((),()),(f,((((),((),((),((),())))),()),(s.1,(s.2,()))))))=some (qw3 f (Sp.visit f n b s))
 |0,b,s,h,_,_=>by omega
 |n+1,b,s,h,hl,ho=>by
  have hB:=hf.2.2.2.2.2.1;simp only[reachBytes]at hB;show go101 (zc8 n) b ((),()) ((),()) f (((),((),((),((),())))),()) s.1 s.2=_;unfold go101 Sp.visit;by_cases h1:b<0
  ·rw[if_pos (.inl h1)];simp only[decide_eq_true h1,cond_true];rfl
  ·by_cases h2:(s.1.length:Int)<=b
   ·rw[if_pos (.inr h2)];simp only[decide_eq_false h1,cond_false,decide_eq_true h2,cond_true];rfl
   ·rw[if_neg (by omega)];have hlt:b.toNat<s.1.length:=by omega
    have g1:(0:Int)<=b/\b<((s.1.length:Nat):Int):=by omega
    simp only[decide_eq_false h1,cond_false,decide_eq_false h2,qas g1,qdi hlt];cases h3:s.1.getD b.toNat false with
    |true=>simp only[cond_true,if_true];rfl
    |false=>
     simp only[cond_false,zhs,if_false];have hu:=qfr hlt h3;have g2:(s.2.length+1)*(8:Nat)<=(140737488355328:Nat)/\s.2.length+1<=(281474976710656:Nat):=by omega
     have g3:(0:Int)<=b/\b<((f.blocks.length:Nat):Int):=by omega
     rw[qas g2,qas g3];have hbk:Block.ok (f.blocks.getD b.toNat Block.z):=qic hf.2.2.2.2.2 Block.z (by omega);have htl:=hbk.2.2.1.2.2.1.len;rw[qc6]at htl;generalize hto:(f.blocks.getD b.toNat Block.z).term.to=to at htl ⊢;refine qbj (qct (st:=fun k=>(((),(to,(((to.length:Nat):Int),((k:Int),())))),(((),()),(((),()),(f,((((),((),((),((),())))),()),(((to.take k).foldl (fun s e=>Sp.visit f n e.block s) (s.1.set b.toNat true,s.2++[b])).1,((),(((to.take k).foldl (fun s e=>Sp.visit f n e.block s) (s.1.set b.toNat true,s.2++[b])).2,()))))))))) rfl to.length (X0:=qw3 f (to.foldl (fun s e=>Sp.visit f n e.block s) (s.1.set b.toNat true,s.2++[b]))) (fun k hk=>?_) ?_) rfl
     ·have inv:=qeb (fun r:List Bool×List Int=>r.1.length=s.1.length/\r.2.length+qbk r.1=s.2.length+qbk s.1/\qbk r.1<=qbk (s.1.set b.toNat true)) (fun s e=>Sp.visit f n e.block s) (fun r e hr=>by
       obtain⟨q1,q2,q3⟩:=qeu f n e.block r;exact⟨q1.trans hr.1,q2.trans hr.2.1,zhy q3 hr.2.2⟩) (to.take k) (s.1.set b.toNat true,s.2++[b]) ⟨by simp,by simp only[zg6,List.length_singleton];omega,zg3 _⟩
      obtain⟨i1,i2,i3⟩:=inv;rw[qlo hk Edge.z,List.foldl_append];generalize (to.take k).foldl (fun s e=>Sp.visit f n e.block s) (s.1.set b.toNat true,s.2++[b])=r at i1 i2 i3 ⊢;have rec_:=q2m f hf n (to.getD k Edge.z).block r (by omega) (by omega) (by omega);obtain⟨q1,_,_⟩:=qeu f n (to.getD k Edge.z).block r;unfold go101_l1;simp only[zhe];have g4:(0:Int)<=(k:Int)/\(k:Int)<((to.length:Nat):Int):=by omega
      have g5:(k:Int)<((to.length:Nat):Int):=by omega
      rw[decide_eq_true g5,cond_true,qas g4];refine qbj rec_ ?_;simp only[qw3,q1,decide_true,ziq,qcw];rw[qas (by omega)];rfl
     ·unfold go101_l1;simp only[List.take_length];rw[decide_eq_false (by omega),cond_false];rfl
def c101:Ctr Try.prog:=⟨101,inferInstance,q5l,q4d,.tup [],q7y,fun x y=>grd (okB (Fn.ok y.2.2.1/\y.2.2.2.2.1.length=y.2.2.1.blocks.length/\y.2.2.2.2.2.1.length+qbk y.2.2.2.2.1<=y.2.2.1.blocks.length)) (some (qw3 y.2.2.1 (Sp.visit y.2.2.1 (qbk y.2.2.2.2.1+1) x.1 (y.2.2.2.2.1,y.2.2.2.2.2.1)))),
 fun x y r h=>by
  obtain⟨h1,h2⟩:=qbs h;obtain⟨g1,g2,g3⟩:=qc5 h1;injection h2 with h2;subst h2;exact q6n (qbk y.2.2.2.2.1+1) x y _ (q2m y.2.2.1 g1 (qbk y.2.2.2.2.1+1) x.1 (y.2.2.2.2.1,y.2.2.2.2.2.1) (Nat.lt_succ_self _) g2 g3)⟩
end
end Go.Abs
namespace Go.Abs
open Go Go.Proofs
noncomputable section
def ann66:Ann:=(.seq .o (.seq .o (.seq .o (.seq .o (.seq .o (.seq .o (.seq .o .o)))))))
def go66(x0:Fn):(Option ty15):=(grd (okB (((x0.blocks.length:Int)=(x0.blocks.length:Int))/\((0<=(x0.blocks.length:Int))/\((((x0.blocks.length:Int)*((1:Nat):Int))<=140737488355328)/\((x0.blocks.length:Int)<=281474976710656))))) (qak (grd (okB ((Fn.ok x0)/\(((@List.replicate Bool (x0.blocks.length:Int).toNat false).length=x0.blocks.length)/\((0+(qbk (@List.replicate Bool (x0.blocks.length:Int).toNat false)))<=x0.blocks.length)))) (some (qw3 x0 (Sp.visit x0 ((qbk (@List.replicate Bool (x0.blocks.length:Int).toNat false))+1) 0 ((@List.replicate Bool (x0.blocks.length:Int).toNat false),([]:List Int)))))) (fun r0=>(grd ((decide ((1:Nat)=1))&&((decide ((1:Nat)=1))&&((decide (1=1))&&((decide ((1:Nat)=1))&&((decide (r0.2.2.2.2.2.1.length=(@List.replicate Bool (x0.blocks.length:Int).toNat false).length))&&true))))) (some ((),(r0.2.2.2.2.2.2.2.1,())))))))
theorem run66(x0:Fn):qei (P:=Try.prog) [c101] Try.f66 ann66 [(0,(.st 6))] [] (.full 0) [(.lst 3 (.int .i64))] (x0,()) ()=go66 x0:=by kernel_rfl
def Sp.order(f:Fn):List Int:=(Sp.visit f (f.blocks.length+1) 0 (List.replicate f.blocks.length false,[])).2
theorem qep(n:Nat):qbk (List.replicate n false)=n:=by simp[qbk]
theorem ok66(f:Fn)(h:f.ok):go66 f=some ((),Sp.order f,()):=by
 have hB:=h.2.2.2.2.2.1;simp only[reachBytes]at hB;unfold go66;simp only[zhe,qep,zia]
 rw[qas (by refine⟨?_,?_,?_,?_⟩<;>first|trivial|omega),qas (by refine⟨h,?_,?_⟩<;>first|trivial|omega)]
 simp only[qah,qw3];have e:=(qeu f (f.blocks.length+1) 0 (List.replicate f.blocks.length false,[])).1;simp only[zia]at e;simp only[e,decide_true,ziq,qcw];rfl
def c66:Ctr Try.prog:=qcn 66 Try.f66 Try.func66 [c101] ann66 [(0,(.st 6))] [] (.full 0) [(.lst 3 (.int .i64))] (fun x _=>grd (okB (Fn.ok x.1)) (some ((),Sp.order x.1,()))) (fun x _ r h=>FO (run66 x.1) (ok66 x.1) h)
end
end Go.Abs
namespace Go.Abs
open Go Go.Proofs
noncomputable section
def ann69:Ann:=(.seq .o (.join ⟨[(1,(.i .i64)),(2,(.full 0)),(3,(.ptr 1 0))],[(.lst 3 (.int .i64)),(.box 30 (.st 6))]⟩ (.seq .o (.cond (.seq .o .o) .o)) (.seq .o (.join sh55 (.seq .o (.block (.loop sh56 [((.exit 0),sh55)] (.join sh56 (.seq .o (.cond .o .o)) (.join sh56 (.block .o) .o))))) (.seq .o .o)))))
def go69_l1(G:D69):((Int×ty3)×(Unit×((List Int)×(Fn×Unit))))->Option (((Int×ty3)×(Unit×((List Int)×(Fn×Unit))))⊕((Unit×Unit)×ty15)):=(fun r1=>(grd (okB ((0<=r1.1.1)/\(r1.1.1<(r1.2.2.2.1.blocks.length:Int)))) (bif(decide (r1.1.2.2.2.1<(((r1.2.2.2.1.blocks.getD r1.1.1.toNat Block.z).term.to.length:Nat):Int)))then(grd (okB ((0<=r1.1.1)/\(r1.1.1<(r1.2.2.2.1.blocks.length:Int)))) (grd (okB ((0<=r1.1.2.2.2.1)/\(r1.1.2.2.2.1<(((r1.2.2.2.1.blocks.getD r1.1.1.toNat Block.z).term.to.length:Nat):Int)))) (qak (G (r1.2.2.2.1,(((r1.2.2.2.1.blocks.getD r1.1.1.toNat Block.z).term.to.getD r1.1.2.2.2.1.toNat Edge.z).block,((),()))) (r1.2.2.1,())) (fun r2=>(grd (okB (((-9223372036854775808)<=(r1.1.2.2.2.1+1))/\((r1.1.2.2.2.1+1)<=9223372036854775807))) (some (Sum.inl ((r1.1.1,((),((),((r1.1.2.2.2.1+1),())))),((),(r2.2.2.1,(r1.2.2.2.1,())))))))))))else(some (Sum.inr (((),()),((),(r1.2.2.1,()))))))))
def go69(G:D69)(x0:Fn)(x1:Int)(y0:(List Int)):(Option (Unit×ty15)):=(qak (grd (okB (y0.length<=LEN)) (some ((!(@List.all Int y0 (fun r0=>(!(decide (r0=x1)))))),()))) (fun r0=>(bif r0.1 then(some ((),((),(y0,()))))else(grd (okB ((((y0.length+1)*8)<=140737488355328)/\((y0.length+1)<=281474976710656))) (qak (qap (go69_l1 G) ((x1,((),((),(0,())))),((),((y0++(x1::([]:List Int))),(x0,()))))) (fun z0=>(some ((),((),(z0.2.2.1,()))))))))))
theorem run69(G:D69)(hG:(zfn G))(x0:Fn)(x1:Int)(y0:(List Int)):qei (P:=Try.prog) [c41,zgr G hG] Try.f69 ann69 [(0,(.st 6)),(1,(.i .i64)),(2,(.full 0))] [(.lst 3 (.int .i64))] (.full 1) [.dead,(.lst 3 (.int .i64))] (x0,(x1,((),()))) (y0,())=go69 G x0 x1 y0:=by kernel_rfl
def F69:Nat->D69
 |0=>fun _ _=>none
 |n+1=>fun x y=>go69 (F69 n) x.1 x.2.1 y.1
theorem zb1:∀n,zfn (F69 n)
 |0=>fun x y r h=>by cases h
 |n+1=>fun x y r h=>by
  have h1:=run69 (F69 n) (zb1 n) x.1 x.2.1 y.1;exact CT.of Try.func69 (h1.trans h)
def qb8(f:Fn)(o:List Int):List Bool:=(List.range f.blocks.length).map fun(i:Nat)=>o.any fun y=>decide (y=(i:Int))
theorem qg0(f:Fn)(o:List Int):(qb8 f o).length=f.blocks.length:=by simp[qb8]
theorem qis(f:Fn)(o:List Int){b:Int}(h0:0<=b)(h1:b<f.blocks.length):(qb8 f o).getD b.toNat false=o.any fun y=>decide (y=b):=by
 have h2:b.toNat<(List.range f.blocks.length).length:=by simp;omega
 have e:((b.toNat:Nat):Int)=b:=ziu h0;simp only[qb8,zg0,zh5,zhb h2,zin,zii,zhi,e]
theorem qft(f:Fn)(o:List Int){b:Int}(h0:0<=b)(h1:b<f.blocks.length):(qb8 f o).set b.toNat true=qb8 f (o++[b]):=by
 refine zih (by simp[qb8]) fun i h2 h3=>?_;simp only[qb8,List.getElem_set,ziv,zin,List.any_append,List.any_cons,List.any_nil,Bool.or_false];by_cases h:b.toNat=i
 ·rw[if_pos h,decide_eq_true (show b=(i:Int)by omega),Bool.or_true]
 ·rw[if_neg h,decide_eq_false (show ¬ b=(i:Int)by omega),Bool.or_false]
theorem qjl(f:Fn):∀(n:Nat) (b:Int) (s:List Bool×List Int),s.1=qb8 f s.2->(Sp.visit f n b s).1=qb8 f (Sp.visit f n b s).2
 |0,b,s,h=>h
 |n+1,b,s,h=>by
  unfold Sp.visit;split
  ·exact h
  ·rename_i hb;split
   ·exact h
   ·refine qeb (fun r:List Bool×List Int=>r.1=qb8 f r.2) _ (fun r e hr=>qjl f n e.block r hr) _ _ ?_;have hl:s.1.length=f.blocks.length:=by rw[h,qg0]
    show s.1.set b.toNat true=_;rw[h];exact qft f s.2 (by omega) (by omega)
def qqs(f:Fn):Prop:=∀i,i<f.blocks.length->∀k,k<(f.blocks.getD i Block.z).term.to.length->0<=((f.blocks.getD i Block.z).term.to.getD k Edge.z).block/\((f.blocks.getD i Block.z).term.to.getD k Edge.z).block<f.blocks.length
theorem q69(f:Fn)(hf:f.ok)(he:qqs f):∀(n:Nat) (b:Int) (s:List Bool×List Int),qbk s.1<n->0<=b->b<f.blocks.length->s.1=qb8 f s.2->s.2.length+qbk s.1<=f.blocks.length ->
  F69 n (f,(b,((),()))) (s.2,())=some ((),((),((Sp.visit f n b s).2,())))
 |0,b,s,h,_,_,_,_=>by omega
 |n+1,b,s,h,h0,h1,hs,ho=>by
  have hB:=hf.2.2.2.2.2.1;simp only[reachBytes]at hB;have hl:s.1.length=f.blocks.length:=by rw[hs,qg0]
  have hlen:s.2.length<=LEN:=by rw[qc6];omega
  show go69 (F69 n) f b s.2=_;unfold go69 Sp.visit;rw[if_neg (by omega),qas hlen,qah];have hg:s.1.getD b.toNat false=!(s.2.all fun y=>!decide (y=b)):=by
   rw[hs,qis f _ h0 h1,List.all_eq_not_any_not];simp
  simp only;rw[<- hg];cases h3:s.1.getD b.toNat false with
  |true=>simp only[cond_true,if_true]
  |false=>
   simp only[cond_false,zhs,if_false];have hlt:b.toNat<s.1.length:=by omega
   have hu:=qfr hlt h3;have g2:(s.2.length+1)*(8:Nat)<=(140737488355328:Nat)/\s.2.length+1<=(281474976710656:Nat):=by omega
   have g3:(0:Int)<=b/\b<((f.blocks.length:Nat):Int):=by omega
   rw[qas g2];have hbk:Block.ok (f.blocks.getD b.toNat Block.z):=qic hf.2.2.2.2.2 Block.z (by omega);have htl:=hbk.2.2.1.2.2.1.len;have heb:=he b.toNat (by omega);rw[qc6]at htl;refine qbj (qct (X0:=(((),()),((),(((f.blocks.getD b.toNat Block.z).term.to.foldl (fun s e=>Sp.visit f n e.block s) (s.1.set b.toNat true,s.2++[b])).2,())))) (st:=fun k=>((b,((),((),((k:Int),())))),((),((((f.blocks.getD b.toNat Block.z).term.to.take k).foldl (fun s e=>Sp.visit f n e.block s) (s.1.set b.toNat true,s.2++[b])).2,(f,()))))) rfl (f.blocks.getD b.toNat Block.z).term.to.length (fun k hk=>?_) ?_) ?_
   ·have inv:=qeb (fun r:List Bool×List Int=>r.1=qb8 f r.2/\r.1.length=s.1.length/\r.2.length+qbk r.1=s.2.length+qbk s.1/\qbk r.1<=qbk (s.1.set b.toNat true)) (fun s e=>Sp.visit f n e.block s) (fun r e hr=>by
     obtain⟨q1,q2,q3⟩:=qeu f n e.block r;exact⟨qjl f n e.block r hr.1,q1.trans hr.2.1,q2.trans hr.2.2.1,zhy q3 hr.2.2.2⟩) ((f.blocks.getD b.toNat Block.z).term.to.take k) (s.1.set b.toNat true,s.2++[b]) ⟨by
      show s.1.set b.toNat true=_;rw[hs];exact qft f s.2 h0 h1,by simp,by simp only[zg6,List.length_singleton];omega,zg3 _⟩
    rw[qlo hk Edge.z,List.foldl_append];obtain⟨i0,i1,i2,i3⟩:=inv;generalize ((f.blocks.getD b.toNat Block.z).term.to.take k).foldl (fun s e=>Sp.visit f n e.block s) (s.1.set b.toNat true,s.2++[b])=r at i0 i1 i2 i3 ⊢;have rec_:=q69 f hf he n ((f.blocks.getD b.toNat Block.z).term.to.getD k Edge.z).block r (by omega) (heb k hk).1 (heb k hk).2 i0 (by omega);unfold go69_l1;simp only[zhe];have g4:(0:Int)<=(k:Int)/\(k:Int)<(((f.blocks.getD b.toNat Block.z).term.to.length:Nat):Int):=by omega
    rw[qas g3,decide_eq_true g4.2,cond_true,qas g3,qas g4];refine qbj rec_ ?_;rw[qas (by omega)];rfl
   ·unfold go69_l1;simp only[List.take_length];rw[qas g3,decide_eq_false (by omega),cond_false]
   ·rfl
def c69:Ctr Try.prog:=⟨69,inferInstance,zdt,zdg,.full 1,zem,fun x y=>grd (okB (Fn.ok x.1/\qqs x.1/\0<=x.2.1/\x.2.1<x.1.blocks.length/\y.1.length+qbk (qb8 x.1 y.1)<=x.1.blocks.length)) (some ((),((),((Sp.visit x.1 (qbk (qb8 x.1 y.1)+1) x.2.1 (qb8 x.1 y.1,y.1)).2,())))),
 fun x y r h=>by
  obtain⟨h1,h2⟩:=qbs h;obtain⟨g1,g2,g3,g4,g5⟩:=qc5 h1;injection h2 with h2;subst h2;exact zb1 (qbk (qb8 x.1 y.1)+1) x y _ (q69 x.1 g1 g2 (qbk (qb8 x.1 y.1)+1) x.2.1 (qb8 x.1 y.1,y.1) (Nat.lt_succ_self _) g3 g4 rfl g5)⟩
end
end Go.Abs
namespace Go.Abs
open Go Go.Proofs
noncomputable section
def ann70:Ann:=(.seq .o (.seq .o (.join sh27 (.seq .o (.block (.loop sh57 [((.exit 0),sh27)] (.join sh57 (.seq .o (.cond .o .o)) (.join sh57 (.block .o) .o))))) (.seq .o .o))))
def go70_l1:(((List Int)×((List Int)×(Unit×(Int×Unit))))×((List Int)×Unit))->Option ((((List Int)×((List Int)×(Unit×(Int×Unit))))×((List Int)×Unit))⊕((Unit×Unit)×((List Int)×Unit))):=(fun r0=>(bif(decide (r0.1.2.2.2.1<(r0.1.1.length:Int)))then(grd (okB ((0<=r0.1.2.2.2.1)/\(r0.1.2.2.2.1<(r0.1.1.length:Int)))) (grd (okB ((0<=(r0.1.1.getD r0.1.2.2.2.1.toNat 0))/\((r0.1.1.getD r0.1.2.2.2.1.toNat 0)<(r0.1.2.1.length:Int)))) (grd (okB ((((r0.2.1.length+1)*8)<=140737488355328)/\((r0.2.1.length+1)<=281474976710656))) (grd (okB (((-9223372036854775808)<=(r0.1.2.2.2.1+1))/\((r0.1.2.2.2.1+1)<=9223372036854775807))) (some (Sum.inl ((r0.1.1,(r0.1.2.1,((),((r0.1.2.2.2.1+1),())))),((r0.2.1++((r0.1.2.1.getD (r0.1.1.getD r0.1.2.2.2.1.toNat 0).toNat 0)::([]:List Int))),()))))))))else(some (Sum.inr (((),()),(r0.2.1,()))))))
def go70(x0:(List Int))(x1:(List Int)):(Option ty15):=(qak (qap (go70_l1) ((x0,(x1,((),(0,())))),(([]:List Int),()))) (fun z0=>(some ((),(z0.2.1,())))))
theorem run70(x0:(List Int))(x1:(List Int)):qei (P:=Try.prog) [] Try.f70 ann70 [(0,(.fz (.int .i64))),(1,(.fz (.int .i64)))] [] (.full 0) [(.lst 3 (.int .i64))] (x0,(x1,())) ()=go70 x0 x1:=by kernel_rfl
def ann67:Ann:=(.seq .o (.join sh58 (.seq .o (.cond (.seq .o .o) .o)) (.join sh58 (.seq .o (.seq .o (.cond (.seq .o .o) .o))) (.seq .o (.seq (.x ⟨false,false,false,false,[],[],[0,0,2,0,14,30,62,127,255],(.rd 0 (.qu [1,2,3,4,5] (.on 6 (.on 7 (.on 8 .nil)))))⟩) (.seq .o .o))))))
def go67(x0:Int)(y0:(ByteArray×(Unit×(Unit×(Unit×(Unit×(Unit×Unit)))))))(y1:(List Int))(y2:(List Arr))(y3:(List qbp))(y4:(List Int))(y5:(List qac))(y6:(Unit×Unit))(y7:(qce->(Option Int)))(y8:(Unit×Unit))(y9:(List Int)):(Option (Int×((ByteArray×(Unit×(Unit×(Unit×(Unit×(Unit×Unit))))))×((List Int)×((List Arr)×((List qbp)×((List Int)×((List qac)×((Unit×Unit)×((qce->(Option Int))×((Unit×Unit)×ty15))))))))))):=(bif(decide (x0<0))then(some (x0,((y0.1,((),((),((),((),((),())))))),(y1,(y2,(y3,(y4,(y5,(((),()),(y7,(((),()),((),(y9,())))))))))))))else(bif(decide ((y1.length:Int)<=x0))then(some (x0,((y0.1,((),((),((),((),((),())))))),(y1,(y2,(y3,(y4,(y5,(((),()),(y7,(((),()),((),(y9,())))))))))))))else(bif(@Option.isSome Int (y7 (qce.i x0)))then(some ((@Option.getD Int (y7 (qce.i x0)) 0),((y0.1,((),((),((),((),((),())))))),(y1,(y2,(y3,(y4,(y5,(((),()),(y7,(((),()),((),(y9,())))))))))))))else(grd (okB ((0<=x0)/\(x0<(y1.length:Int)))) (grd (Nat.blt x0.toNat y1.length) (grd (okB ((((y9.length+1)*8)<=140737488355328)/\((y9.length+1)<=281474976710656))) (some ((@Option.getD Int (@qnn Int y7 (qce.i x0) (y9.length:Int) (qce.i x0)) 0),((y0.1,((),((),((),((),((),())))))),(y1,(y2,(y3,(y4,(y5,(((),()),((@qnn Int y7 (qce.i x0) (y9.length:Int)),(((),()),((),((y9++((y1.getD x0.toNat 0)::([]:List Int))),())))))))))))))))))))
theorem run67(x0:Int)(y0:(ByteArray×(Unit×(Unit×(Unit×(Unit×(Unit×Unit)))))))(y1:(List Int))(y2:(List Arr))(y3:(List qbp))(y4:(List Int))(y5:(List qac))(y6:(Unit×Unit))(y7:(qce->(Option Int)))(y8:(Unit×Unit))(y9:(List Int)):qei (P:=Try.prog) [] Try.f67 ann67 [(0,(.i .i64)),(1,(.ptr 0 0)),(2,(.ptr 6 0)),(3,(.ptr 8 0))] [(.cells 30 [.s,(.full 1),(.full 2),(.full 3),(.full 4),(.full 5)]),(.lst 3 (.int .i64)),(.lst 53 (.st 4)),(.lst 55 (.st 5)),(.lst 3 (.int .i64)),(.lst 41 (.st 14)),(.cells 91 [(.qcd 7)]),(.mp false (.int .i64)),(.cells 25 [(.full 9)]),(.lst 3 (.int .i64))] (.i .i64) [(.cells 30 [.s,(.full 1),(.full 2),(.full 3),(.full 4),(.full 5)]),(.lst 3 (.int .i64)),(.lst 53 (.st 4)),(.lst 55 (.st 5)),(.lst 3 (.int .i64)),(.lst 41 (.st 14)),(.cells 91 [(.qcd 7)]),(.mp false (.int .i64)),(.cells 25 [(.full 10)]),.dead,(.lst 3 (.int .i64))] (x0,((),((),((),())))) (y0,(y1,(y2,(y3,(y4,(y5,(y6,(y7,(y8,(y9,()))))))))))=go67 x0 y0 y1 y2 y3 y4 y5 y6 y7 y8 y9:=by kernel_rfl
abbrev RS:=(qce->Option Int)×List Int
def Sp.num(W:List Int)(v:Int)(s:RS):Int×RS:=if v<0\/(W.length:Int)<=v then(v,s)else match s.1 (.i v)with
 |some n=>(n,s)
 |none=>((s.2.length:Int),qnn s.1 (.i v) (s.2.length:Int),s.2++[W.getD v.toNat 0])
def room(n:Nat):Bool:=Nat.blt n 1073741824
theorem q7x{n:Nat}(h:room n=true):okB ((n+1)*8<=140737488355328/\n+1<=281474976710656)=true:=by
 have:n<1073741824:=zg4 h;exact ql9 (by omega)
theorem zb6(l t:List Int)(hl:l.length<=100000)(ht:∀i,i<l.length->0<=l.getD i 0/\l.getD i 0<t.length):go70 l t=some ((),(l.map (fun v=>t.getD v.toNat 0),())):=by
 have key:qap go70_l1 ((l,(t,((),((0:Int),())))),(([]:List Int),()))=some (((),()),(l.map (fun v=>t.getD v.toNat 0),())):=?_
 ·unfold go70;rw[key];rfl
 refine qct (st:=fun i=>((l,(t,((),((i:Int),())))),((l.take i).map (fun v=>t.getD v.toNat 0),()))) rfl l.length (fun i hi=>?_) ?_
 ·obtain⟨h1,h2⟩:=ht i hi;have hlen:((l.take i).map (fun v=>t.getD v.toNat 0)).length=i:=by simp[Nat.le_of_lt hi]
  rw[qlo hi 0,zix];unfold go70_l1;simp(maxSteps:=1000000) (disch:=((try dsimp only);omega)) only[↓gsA,gsB]
  rfl
 ·unfold go70_l1;rw[List.take_length];simp(maxSteps:=1000000) (disch:=((try dsimp only);omega)) only[↓gsA,gsB]
def c70:Ctr Try.prog:=qcn 70 Try.f70 Try.func70 [] ann70 [(0,(.fz (.int .i64))),(1,(.fz (.int .i64)))] [] (.full 0) [(.lst 3 (.int .i64))] (fun x _=>grd (okB (x.1.length<=100000/\∀i,i<x.1.length->0<=x.1.getD i 0/\x.1.getD i 0<x.2.1.length)) (some ((),(x.1.map (fun v=>x.2.1.getD v.toNat 0),())))) (fun x _ r h=>FO (run70 x.1 x.2.1) (fun p=>zb6 x.1 x.2.1 p.1 p.2) h)
abbrev F67:=ByteArray×(Unit×(Unit×(Unit×(Unit×(Unit×Unit)))))
abbrev B67:=F67×(List Int×(List Arr×(List qbp×(List Int×(List qac×((Unit×Unit)×((qce->Option Int)×((Unit×Unit)×(List Int×Unit)))))))))
abbrev C67:=F67×(List Int×(List Arr×(List qbp×(List Int×(List qac×((Unit×Unit)×((qce->Option Int)×((Unit×Unit)×(Unit×(List Int×Unit))))))))))
def q7r(y:B67):RS:=(y.2.2.2.2.2.2.2.1,y.2.2.2.2.2.2.2.2.2.1)
def zep(y:B67)(s:RS):C67:=((y.1.1,((),((),((),((),((),())))))),(y.2.1,(y.2.2.1,(y.2.2.2.1,(y.2.2.2.2.1,(y.2.2.2.2.2.1,(((),()),(s.1,(((),()),((),(s.2,())))))))))))
def q6c(v:Int)(y:B67):Option (Int×C67):=grd (room (q7r y).2.length) (some ((Sp.num y.2.1 v (q7r y)).1,zep y (Sp.num y.2.1 v (q7r y)).2))
theorem ok67(v:Int)(y:B67){r:Int×C67}(h:q6c v y=some r):go67 v y.1 y.2.1 y.2.2.1 y.2.2.2.1 y.2.2.2.2.1 y.2.2.2.2.2.1 y.2.2.2.2.2.2.1 y.2.2.2.2.2.2.2.1 y.2.2.2.2.2.2.2.2.1 y.2.2.2.2.2.2.2.2.2.1=some r:=by
 unfold q6c at h;obtain⟨hr,h⟩:=qbs h;injection h with h;subst h;obtain⟨⟨nm,u1⟩,W,a,t,rt,bl,u2,m,u3,w,u4⟩:=y;simp only[q7r]at hr ⊢;unfold go67 Sp.num zep;simp only;by_cases h1:v<0
 ·simp only[h1,true_or,if_true,decide_true,cond_true]
 ·by_cases h2:(W.length:Int)<=v
  ·simp only[h1,h2,or_true,if_true,decide_true,decide_false,cond_true,cond_false]
  ·simp only[h1,h2,or_false,if_false,decide_false,cond_false];cases hm:m (.i v)with
   |some n=>simp
   |none=>
    have e1:okB (0<=v/\v<((W.length:Nat):Int))=true:=ql9 ⟨by omega,by omega⟩;have e2:Nat.blt v.toNat W.length=true:=qdc (by omega);have e3:qnn m (.i v) (w.length:Int) (.i v)=some (w.length:Int):=by simp[qnn]
    simp only[Option.isSome_none,cond_false,e1,e2,q7x hr,e3,qcw,zhi]
def c67:Ctr Try.prog:=qcn 67 Try.f67 Try.func67 [] ann67 [(0,(.i .i64)),(1,(.ptr 0 0)),(2,(.ptr 6 0)),(3,(.ptr 8 0))] [(.cells 30 [.s,(.full 1),(.full 2),(.full 3),(.full 4),(.full 5)]),(.lst 3 (.int .i64)),(.lst 53 (.st 4)),(.lst 55 (.st 5)),(.lst 3 (.int .i64)),(.lst 41 (.st 14)),(.cells 91 [(.qcd 7)]),(.mp false (.int .i64)),(.cells 25 [(.full 9)]),(.lst 3 (.int .i64))] (.i .i64) [(.cells 30 [.s,(.full 1),(.full 2),(.full 3),(.full 4),(.full 5)]),(.lst 3 (.int .i64)),(.lst 53 (.st 4)),(.lst 55 (.st 5)),(.lst 3 (.int .i64)),(.lst 41 (.st 14)),(.cells 91 [(.qcd 7)]),(.mp false (.int .i64)),(.cells 25 [(.full 10)]),.dead,(.lst 3 (.int .i64))] (fun x y=>q6c x.1 y) (fun x y r h=>(run67 _ _ _ _ _ _ _ _ _ _ _).trans (ok67 x.1 y h))
end
end Go.Abs
