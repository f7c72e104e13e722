/-
Texts of the proof, part 6: Te Tx V1 V2 V3 V4 V5 V6 V7 Zi0 Zi Zj Ra V9 W4 Rc Rb Rf Ri.
No statement of the program is proved here.
-/
import Derived.Test.YtlcholjffgaemaaM5
set_option linter.unusedVariables false
namespace Go.Abs
open Go Go.Proofs
def qcq(t:TypeId)(U:Ty):Prop:=qkb U=true/\∀z,(Tys.c Try.prog t).zero=some z->U.sz=z.cells.size/\∀j,j<U.sz->∃u,qao U U.z j=.ev u/\∀len,Wk (V.cell (z.cells.getD j undef)) (toV len u)
theorem zih:qcq 2 (.int .i64):=⟨rfl,fun z h=>by
 injection h with h;subst h;refine⟨rfl,fun j hj=>?_⟩
 match j,hj with
 |0,_=>exact⟨_,rfl,fun len=>by first|exact Wk.refl _|exact Wk.qb7 _ _⟩
 | n+1,h=>exact absurd h (by show ¬ n+1<1;omega)⟩
theorem zig:qcq 3 (.int .i64):=⟨rfl,fun z h=>by
 injection h with h;subst h;refine⟨rfl,fun j hj=>?_⟩
 match j,hj with
 |0,_=>exact⟨_,rfl,fun len=>by first|exact Wk.refl _|exact Wk.qb7 _ _⟩
 | n+1,h=>exact absurd h (by show ¬ n+1<1;omega)⟩
theorem zif:qcq 4 .bool:=⟨rfl,fun z h=>by
 injection h with h;subst h;refine⟨rfl,fun j hj=>?_⟩
 match j,hj with
 |0,_=>exact⟨_,rfl,fun len=>by first|exact Wk.refl _|exact Wk.qb7 _ _⟩
 | n+1,h=>exact absurd h (by show ¬ n+1<1;omega)⟩
theorem zie:qcq 5 (.int .u8):=⟨rfl,fun z h=>by
 injection h with h;subst h;refine⟨rfl,fun j hj=>?_⟩
 match j,hj with
 |0,_=>exact⟨_,rfl,fun len=>by first|exact Wk.refl _|exact Wk.qb7 _ _⟩
 | n+1,h=>exact absurd h (by show ¬ n+1<1;omega)⟩
theorem zid:qcq 9 .str:=⟨rfl,fun z h=>by
 injection h with h;subst h;refine⟨rfl,fun j hj=>?_⟩
 match j,hj with
 |0,_=>exact⟨_,rfl,fun len=>by first|exact Wk.refl _|exact Wk.qb7 _ _⟩
 | n+1,h=>exact absurd h (by show ¬ n+1<1;omega)⟩
theorem zge:qcq 25 (.sl (.int .i64)):=⟨rfl,fun z h=>by
 injection h with h;subst h;refine⟨rfl,fun j hj=>?_⟩
 match j,hj with
 |0,_=>exact⟨_,rfl,fun len=>by first|exact Wk.refl _|exact Wk.qb7 _ _⟩
 | n+1,h=>exact absurd h (by show ¬ n+1<1;omega)⟩
theorem zgd:qcq 26 (.sl (.st 4)):=⟨rfl,fun z h=>by
 injection h with h;subst h;refine⟨rfl,fun j hj=>?_⟩
 match j,hj with
 |0,_=>exact⟨_,rfl,fun len=>by first|exact Wk.refl _|exact Wk.qb7 _ _⟩
 | n+1,h=>exact absurd h (by show ¬ n+1<1;omega)⟩
theorem zgc:qcq 27 (.sl (.st 5)):=⟨rfl,fun z h=>by
 injection h with h;subst h;refine⟨rfl,fun j hj=>?_⟩
 match j,hj with
 |0,_=>exact⟨_,rfl,fun len=>by first|exact Wk.refl _|exact Wk.qb7 _ _⟩
 | n+1,h=>exact absurd h (by show ¬ n+1<1;omega)⟩
theorem zgb:qcq 28 (.sl (.st 3)):=⟨rfl,fun z h=>by
 injection h with h;subst h;refine⟨rfl,fun j hj=>?_⟩
 match j,hj with
 |0,_=>exact⟨_,rfl,fun len=>by first|exact Wk.refl _|exact Wk.qb7 _ _⟩
 | n+1,h=>exact absurd h (by show ¬ n+1<1;omega)⟩
theorem zga:qcq 30 (.st 6):=⟨rfl,fun z h=>by
 injection h with h;subst h;refine⟨rfl,fun j hj=>?_⟩
 match j,hj with
 |0,_|1,_|2,_|3,_|4,_|5,_=>exact⟨_,rfl,fun len=>by first|exact Wk.refl _|exact Wk.qb7 _ _⟩
 | n+6,h=>exact absurd h (by show ¬ n+6<6;omega)⟩
theorem zf9:qcq 36 (.sl (.st 0)):=⟨rfl,fun z h=>by
 injection h with h;subst h;refine⟨rfl,fun j hj=>?_⟩
 match j,hj with
 |0,_=>exact⟨_,rfl,fun len=>by first|exact Wk.refl _|exact Wk.qb7 _ _⟩
 | n+1,h=>exact absurd h (by show ¬ n+1<1;omega)⟩
theorem zf8:qcq 37 (.sl (.st 1)):=⟨rfl,fun z h=>by
 injection h with h;subst h;refine⟨rfl,fun j hj=>?_⟩
 match j,hj with
 |0,_=>exact⟨_,rfl,fun len=>by first|exact Wk.refl _|exact Wk.qb7 _ _⟩
 | n+1,h=>exact absurd h (by show ¬ n+1<1;omega)⟩
theorem zf7:qcq 39 (.st 2):=⟨rfl,fun z h=>by
 injection h with h;subst h;refine⟨rfl,fun j hj=>?_⟩
 match j,hj with
 |0,_|1,_|2,_|3,_=>exact⟨_,rfl,fun len=>by first|exact Wk.refl _|exact Wk.qb7 _ _⟩
 | n+4,h=>exact absurd h (by show ¬ n+4<4;omega)⟩
theorem zf6:qcq 41 (.st 3):=⟨rfl,fun z h=>by
 injection h with h;subst h;refine⟨rfl,fun j hj=>?_⟩
 match j,hj with
 |0,_|1,_|2,_|3,_|4,_|5,_|6,_|7,_|8,_=>exact⟨_,rfl,fun len=>by first|exact Wk.refl _|exact Wk.qb7 _ _⟩
 | n+9,h=>exact absurd h (by show ¬ n+9<9;omega)⟩
theorem zf5:qcq 44 (.int .u64):=⟨rfl,fun z h=>by
 injection h with h;subst h;refine⟨rfl,fun j hj=>?_⟩
 match j,hj with
 |0,_=>exact⟨_,rfl,fun len=>by first|exact Wk.refl _|exact Wk.qb7 _ _⟩
 | n+1,h=>exact absurd h (by show ¬ n+1<1;omega)⟩
theorem zf4:qcq 46 (.st 0):=⟨rfl,fun z h=>by
 injection h with h;subst h;refine⟨rfl,fun j hj=>?_⟩
 match j,hj with
 |0,_|1,_|2,_|3,_|4,_=>exact⟨_,rfl,fun len=>by first|exact Wk.refl _|exact Wk.qb7 _ _⟩
 | n+5,h=>exact absurd h (by show ¬ n+5<5;omega)⟩
theorem zf3:qcq 51 (.st 1):=⟨rfl,fun z h=>by
 injection h with h;subst h;refine⟨rfl,fun j hj=>?_⟩
 match j,hj with
 |0,_|1,_=>exact⟨_,rfl,fun len=>by first|exact Wk.refl _|exact Wk.qb7 _ _⟩
 | n+2,h=>exact absurd h (by show ¬ n+2<2;omega)⟩
theorem zf2:qcq 53 (.st 4):=⟨rfl,fun z h=>by
 injection h with h;subst h;refine⟨rfl,fun j hj=>?_⟩
 match j,hj with
 |0,_|1,_|2,_|3,_|4,_=>exact⟨_,rfl,fun len=>by first|exact Wk.refl _|exact Wk.qb7 _ _⟩
 | n+5,h=>exact absurd h (by show ¬ n+5<5;omega)⟩
theorem zf1:qcq 55 (.st 5):=⟨rfl,fun z h=>by
 injection h with h;subst h;refine⟨rfl,fun j hj=>?_⟩
 match j,hj with
 |0,_|1,_|2,_=>exact⟨_,rfl,fun len=>by first|exact Wk.refl _|exact Wk.qb7 _ _⟩
 | n+3,h=>exact absurd h (by show ¬ n+3<3;omega)⟩
theorem zf0:qcq 57 (.st 7):=⟨rfl,fun z h=>by
 injection h with h;subst h;refine⟨rfl,fun j hj=>?_⟩
 match j,hj with
 |0,_|1,_=>exact⟨_,rfl,fun len=>by first|exact Wk.refl _|exact Wk.qb7 _ _⟩
 | n+2,h=>exact absurd h (by show ¬ n+2<2;omega)⟩
theorem zfz:qcq 67 (.sl (.sl (.int .i64))):=⟨rfl,fun z h=>by
 injection h with h;subst h;refine⟨rfl,fun j hj=>?_⟩
 match j,hj with
 |0,_=>exact⟨_,rfl,fun len=>by first|exact Wk.refl _|exact Wk.qb7 _ _⟩
 | n+1,h=>exact absurd h (by show ¬ n+1<1;omega)⟩
theorem zfy:qcq 69 (.sl .bool):=⟨rfl,fun z h=>by
 injection h with h;subst h;refine⟨rfl,fun j hj=>?_⟩
 match j,hj with
 |0,_=>exact⟨_,rfl,fun len=>by first|exact Wk.refl _|exact Wk.qb7 _ _⟩
 | n+1,h=>exact absurd h (by show ¬ n+1<1;omega)⟩
theorem zcd:qcq 113 (.sl .str):=⟨rfl,fun z h=>by
 injection h with h;subst h;refine⟨rfl,fun j hj=>?_⟩
 match j,hj with
 |0,_=>exact⟨_,rfl,fun len=>by first|exact Wk.refl _|exact Wk.qb7 _ _⟩
 | n+1,h=>exact absurd h (by show ¬ n+1<1;omega)⟩
theorem zcc:qcq 133 (.sl (.int .u8)):=⟨rfl,fun z h=>by
 injection h with h;subst h;refine⟨rfl,fun j hj=>?_⟩
 match j,hj with
 |0,_=>exact⟨_,rfl,fun len=>by first|exact Wk.refl _|exact Wk.qb7 _ _⟩
 | n+1,h=>exact absurd h (by show ¬ n+1<1;omega)⟩
theorem zcb:qcq 142 (.int .u64):=⟨rfl,fun z h=>by
 injection h with h;subst h;refine⟨rfl,fun j hj=>?_⟩
 match j,hj with
 |0,_=>exact⟨_,rfl,fun len=>by first|exact Wk.refl _|exact Wk.qb7 _ _⟩
 | n+1,h=>exact absurd h (by show ¬ n+1<1;omega)⟩
theorem zca:qcq 148 (.int .i64):=⟨rfl,fun z h=>by
 injection h with h;subst h;refine⟨rfl,fun j hj=>?_⟩
 match j,hj with
 |0,_=>exact⟨_,rfl,fun len=>by first|exact Wk.refl _|exact Wk.qb7 _ _⟩
 | n+1,h=>exact absurd h (by show ¬ n+1<1;omega)⟩
theorem zb9:qcq 155 (.int .u32):=⟨rfl,fun z h=>by
 injection h with h;subst h;refine⟨rfl,fun j hj=>?_⟩
 match j,hj with
 |0,_=>exact⟨_,rfl,fun len=>by first|exact Wk.refl _|exact Wk.qb7 _ _⟩
 | n+1,h=>exact absurd h (by show ¬ n+1<1;omega)⟩
theorem zb8:qcq 157 (.int .u64):=⟨rfl,fun z h=>by
 injection h with h;subst h;refine⟨rfl,fun j hj=>?_⟩
 match j,hj with
 |0,_=>exact⟨_,rfl,fun len=>by first|exact Wk.refl _|exact Wk.qb7 _ _⟩
 | n+1,h=>exact absurd h (by show ¬ n+1<1;omega)⟩
def ZOk(t:TypeId)(o:Option Ty):Prop:=∀U,o=some U->qcq t U
theorem qd8{t:TypeId}{b:Bool}{x y:Option Ty}(h1:ZOk t x)(h2:ZOk t y):ZOk t (bif b then x else y):=by cases b<;>assumption
theorem qd7{t n:TypeId}{x:Ty}(h:qcq n x):ZOk t (bif Nat.beq t n then some x else none):=fun U e=>by
 cases hb:Nat.beq t n with
 |true=>rw[hb]at e;obtain rfl:=zi6 hb;cases e;exact h
 |false=>rw[hb]at e;cases e
def zht(t:TypeId):Option Ty:=(bif Nat.blt t 44 then(bif Nat.blt t 27 then(bif Nat.blt t 5 then(bif Nat.blt t 3 then(bif Nat.beq t 2 then some (.int .i64)else none)else(bif Nat.blt t 4 then(bif Nat.beq t 3 then some (.int .i64)else none)else(bif Nat.beq t 4 then some .bool else none)))else(bif Nat.blt t 25 then(bif Nat.blt t 9 then(bif Nat.beq t 5 then some (.int .u8)else none)else(bif Nat.beq t 9 then some .str else none))else(bif Nat.blt t 26 then(bif Nat.beq t 25 then some (.sl (.int .i64))else none)else(bif Nat.beq t 26 then some (.sl (.st 4))else none))))else(bif Nat.blt t 36 then(bif Nat.blt t 28 then(bif Nat.beq t 27 then some (.sl (.st 5))else none)else(bif Nat.blt t 30 then(bif Nat.beq t 28 then some (.sl (.st 3))else none)else(bif Nat.beq t 30 then some (.st 6)else none)))else(bif Nat.blt t 39 then(bif Nat.blt t 37 then(bif Nat.beq t 36 then some (.sl (.st 0))else none)else(bif Nat.beq t 37 then some (.sl (.st 1))else none))else(bif Nat.blt t 41 then(bif Nat.beq t 39 then some (.st 2)else none)else(bif Nat.beq t 41 then some (.st 3)else none)))))else(bif Nat.blt t 69 then(bif Nat.blt t 53 then(bif Nat.blt t 46 then(bif Nat.beq t 44 then some (.int .u64)else none)else(bif Nat.blt t 51 then(bif Nat.beq t 46 then some (.st 0)else none)else(bif Nat.beq t 51 then some (.st 1)else none)))else(bif Nat.blt t 57 then(bif Nat.blt t 55 then(bif Nat.beq t 53 then some (.st 4)else none)else(bif Nat.beq t 55 then some (.st 5)else none))else(bif Nat.blt t 67 then(bif Nat.beq t 57 then some (.st 7)else none)else(bif Nat.beq t 67 then some (.sl (.sl (.int .i64)))else none))))else(bif Nat.blt t 142 then(bif Nat.blt t 113 then(bif Nat.beq t 69 then some (.sl .bool)else none)else(bif Nat.blt t 133 then(bif Nat.beq t 113 then some (.sl .str)else none)else(bif Nat.beq t 133 then some (.sl (.int .u8))else none)))else(bif Nat.blt t 155 then(bif Nat.blt t 148 then(bif Nat.beq t 142 then some (.int .u64)else none)else(bif Nat.beq t 148 then some (.int .i64)else none))else(bif Nat.blt t 157 then(bif Nat.beq t 155 then some (.int .u32)else none)else(bif Nat.beq t 157 then some (.int .u64)else none))))))
theorem qy7(t:TypeId):ZOk t (zht t):=(qd8 (qd8 (qd8 (qd8 (qd7 zih) (qd8 (qd7 zig) (qd7 zif))) (qd8 (qd8 (qd7 zie) (qd7 zid)) (qd8 (qd7 zge) (qd7 zgd)))) (qd8 (qd8 (qd7 zgc) (qd8 (qd7 zgb) (qd7 zga))) (qd8 (qd8 (qd7 zf9) (qd7 zf8)) (qd8 (qd7 zf7) (qd7 zf6))))) (qd8 (qd8 (qd8 (qd7 zf5) (qd8 (qd7 zf4) (qd7 zf3))) (qd8 (qd8 (qd7 zf2) (qd7 zf1)) (qd8 (qd7 zf0) (qd7 zfz)))) (qd8 (qd8 (qd7 zfy) (qd8 (qd7 zcd) (qd7 zcc))) (qd8 (qd8 (qd7 zcb) (qd7 zca)) (qd8 (qd7 zb9) (qd7 zb8))))))
def zgf(t:TypeId):Option Ty:=bif Nat.beq t 25 then some (.st 12)else bif Nat.beq t 41 then some (.st 11)else none
theorem q8x(t:TypeId)(U:Ty)(z:Value)(h:zgf t=some U)(hz:(Tys.c Try.prog t).zero=some z):U.sz=z.cells.size/\∀j,j<U.sz->(∃u,qao U U.z j=.ev u/\∀len,Wk (V.cell (z.cells.getD j undef)) (toV len u))\/∃t' e',qao U U.z j=.own t' e' []/\V.cell (z.cells.getD j undef)=.qb7:=by
 unfold zgf at h;cases hb:Nat.beq t 25 with
 |true=>
  rw[hb]at h;obtain rfl:=zi6 hb;injection h with h;subst h;injection hz with hz;subst hz;refine⟨rfl,fun j hj=>?_⟩
  match j,hj with
  |0,_=>exact .inr ⟨3,.int .i64,rfl,rfl⟩
  |n+1,h=>exact absurd h (by show ¬ n+1<1;omega)
 |false=>
 rw[hb]at h;cases hb:Nat.beq t 41 with
 |true=>
  rw[hb]at h;obtain rfl:=zi6 hb;injection h with h;subst h;injection hz with hz;subst hz;refine⟨rfl,fun j hj=>?_⟩
  match j,hj with
  |0,_|1,_|2,_|3,_|4,_|5,_|6,_|7,_|8,_=>exact .inl ⟨_,rfl,fun len=>by first|exact Wk.refl _|exact Wk.qb7 _ _⟩
  |n+9,h=>exact absurd h (by show ¬ n+9<9;omega)
 |false=>
 rw[hb]at h;cases h
instance:TyE Try.prog:=⟨zht,fun t U h=>(qy7 t U h).1,fun t U z h hz=>(qy7 t U h).2 z hz,zgf,fun t U z h hz=>q8x t U z h hz⟩
end Go.Abs
namespace Go.Abs
open Go Go.Proofs
def zcp:qfr:={ nf:=some 6 }
theorem q4d:qfr.Ok Try.prog 30 zcp:=⟨(fun m h=>by cases h;exact⟨_,Try.underlying30,rfl,by kernel_rfl⟩),(fun l h=>by cases h),(fun s e U h=>by cases h),(fun m s h=>by cases h),(fun m q h=>by cases h)⟩
def zco:qfr:={ nf:=some 4 }
theorem q4c:qfr.Ok Try.prog 39 zco:=⟨(fun m h=>by cases h;exact⟨_,Try.underlying39,rfl,by kernel_rfl⟩),(fun l h=>by cases h),(fun s e U h=>by cases h),(fun m s h=>by cases h),(fun m q h=>by cases h)⟩
def zcn:qfr:={ nf:=some 6 }
theorem q4b:qfr.Ok Try.prog 41 zcn:=⟨(fun m h=>by cases h;exact⟨_,Try.underlying41,rfl,by kernel_rfl⟩),(fun l h=>by cases h),(fun s e U h=>by cases h),(fun m s h=>by cases h),(fun m q h=>by cases h)⟩
def zcm:qfr:={ nf:=some 5 }
theorem q4a:qfr.Ok Try.prog 46 zcm:=⟨(fun m h=>by cases h;exact⟨_,Try.underlying46,rfl,by kernel_rfl⟩),(fun l h=>by cases h),(fun s e U h=>by cases h),(fun m s h=>by cases h),(fun m q h=>by cases h)⟩
def zcl:qfr:={ nf:=some 2 }
theorem q39:qfr.Ok Try.prog 51 zcl:=⟨(fun m h=>by cases h;exact⟨_,Try.underlying51,rfl,by kernel_rfl⟩),(fun l h=>by cases h),(fun s e U h=>by cases h),(fun m s h=>by cases h),(fun m q h=>by cases h)⟩
def zck:qfr:={ nf:=some 5,eq:=some [.string,(.int .i64),(.int .i64),(.int .i64),(.int .i64)] }
theorem q38:qfr.Ok Try.prog 53 zck:=⟨(fun m h=>by cases h;exact⟨_,Try.underlying53,rfl,by kernel_rfl⟩),(fun l h=>by cases h;kernel_rfl),(fun s e U h=>by cases h),(fun m s h=>by cases h),(fun m q h=>by cases h)⟩
def zcj:qfr:={ nf:=some 3,eq:=some [.string,(.int .i64),.bool] }
theorem q37:qfr.Ok Try.prog 55 zcj:=⟨(fun m h=>by cases h;exact⟨_,Try.underlying55,rfl,by kernel_rfl⟩),(fun l h=>by cases h;kernel_rfl),(fun s e U h=>by cases h),(fun m s h=>by cases h),(fun m q h=>by cases h)⟩
def zci:qfr:={ nf:=some 2,eq:=some [(.int .i64),.bool] }
theorem q36:qfr.Ok Try.prog 57 zci:=⟨(fun m h=>by cases h;exact⟨_,Try.underlying57,rfl,by kernel_rfl⟩),(fun l h=>by cases h;kernel_rfl),(fun s e U h=>by cases h),(fun m s h=>by cases h),(fun m q h=>by cases h)⟩
def zch:qfr:={ ar:=some (2,2) }
theorem q35:qfr.Ok Try.prog 58 zch:=⟨(fun m h=>by cases h),(fun l h=>by cases h),(fun s e U h=>by cases h),(fun m s h=>by cases h;exact⟨_,inferInstance⟩),(fun m q h=>by cases h)⟩
def zcg:qfr:={ ar:=some (2,1),ba:=some (2,(.int .u64)) }
theorem q34:qfr.Ok Try.prog 59 zcg:=⟨(fun m h=>by cases h),(fun l h=>by cases h),(fun s e U h=>by cases h),(fun m s h=>by cases h;exact⟨_,inferInstance⟩),(fun m q h=>by cases h;kernel_rfl)⟩
def zcf:qfr:={ ar:=some (2,1),ba:=some (2,(.int .u8)) }
theorem q33:qfr.Ok Try.prog 64 zcf:=⟨(fun m h=>by cases h),(fun l h=>by cases h),(fun s e U h=>by cases h),(fun m s h=>by cases h;exact⟨_,inferInstance⟩),(fun m q h=>by cases h;kernel_rfl)⟩
def zce:qfr:={ mp:=some (false,3,(.int .i64)) }
theorem q32:qfr.Ok Try.prog 91 zce:=⟨(fun m h=>by cases h),(fun l h=>by cases h),(fun s e U h=>by cases h;exact⟨⟨_,Try.underlying91,Try.underlying3⟩⟩),(fun m s h=>by cases h),(fun m q h=>by cases h)⟩
def q7a:qfr:={ nf:=some 3 }
theorem qy6:qfr.Ok Try.prog 107 q7a:=⟨(fun m h=>by cases h;exact⟨_,Try.underlying107,rfl,by kernel_rfl⟩),(fun l h=>by cases h),(fun s e U h=>by cases h),(fun m s h=>by cases h),(fun m q h=>by cases h)⟩
def q69:qfr:={ mp:=some (true,4,.bool) }
theorem qy5:qfr.Ok Try.prog 134 q69:=⟨(fun m h=>by cases h),(fun l h=>by cases h),(fun s e U h=>by cases h;exact⟨⟨_,Try.underlying134,Try.underlying9⟩⟩),(fun m s h=>by cases h),(fun m q h=>by cases h)⟩
def q68:qfr:={ ar:=some (3,1),ba:=some (3,(.int .i64)) }
theorem qy4:qfr.Ok Try.prog 144 q68:=⟨(fun m h=>by cases h),(fun l h=>by cases h),(fun s e U h=>by cases h),(fun m s h=>by cases h;exact⟨_,inferInstance⟩),(fun m q h=>by cases h;kernel_rfl)⟩
theorem qix{t:TypeId}{b:Bool}{x y:qfr}(h1:qfr.Ok Try.prog t x)(h2:qfr.Ok Try.prog t y):qfr.Ok Try.prog t (bif b then x else y):=by cases b<;>assumption
theorem qid{t n:TypeId}{x:qfr}(h:qfr.Ok Try.prog n x):qfr.Ok Try.prog t (bif Nat.beq t n then x else {}):=by
 cases hb:Nat.beq t n with
 |true=>obtain rfl:=zi6 hb;exact h
 |false=>exact⟨fun m h=>(by cases h),fun l h=>(by cases h),fun s e U h=>(by cases h),fun m s h=>(by cases h),fun m q h=>(by cases h)⟩
def zhs(t:TypeId):qfr:=(bif Nat.blt t 57 then(bif Nat.blt t 46 then(bif Nat.blt t 39 then(bif Nat.beq t 30 then zcp else {})else(bif Nat.blt t 41 then(bif Nat.beq t 39 then zco else {})else(bif Nat.beq t 41 then zcn else {})))else(bif Nat.blt t 53 then(bif Nat.blt t 51 then(bif Nat.beq t 46 then zcm else {})else(bif Nat.beq t 51 then zcl else {}))else(bif Nat.blt t 55 then(bif Nat.beq t 53 then zck else {})else(bif Nat.beq t 55 then zcj else {}))))else(bif Nat.blt t 91 then(bif Nat.blt t 59 then(bif Nat.blt t 58 then(bif Nat.beq t 57 then zci else {})else(bif Nat.beq t 58 then zch else {}))else(bif Nat.blt t 64 then(bif Nat.beq t 59 then zcg else {})else(bif Nat.beq t 64 then zcf else {})))else(bif Nat.blt t 134 then(bif Nat.blt t 107 then(bif Nat.beq t 91 then zce else {})else(bif Nat.beq t 107 then q7a else {}))else(bif Nat.blt t 144 then(bif Nat.beq t 134 then q69 else {})else(bif Nat.beq t 144 then q68 else {})))))
theorem q8w(t:TypeId):qfr.Ok Try.prog t (zhs t):=(qix (qix (qix (qid q4d) (qix (qid q4c) (qid q4b))) (qix (qix (qid q4a) (qid q39)) (qix (qid q38) (qid q37)))) (qix (qix (qix (qid q36) (qid q35)) (qix (qid q34) (qid q33))) (qix (qix (qid q32) (qid qy6)) (qix (qid qy5) (qid qy4)))))
instance:TyX Try.prog:=⟨zhs,q8w⟩
end Go.Abs
set_option linter.unusedSectionVars false
set_option linter.unusedSimpArgs false
set_option maxHeartbeats 1000000
namespace Go.Abs
open Go Go.Proofs
noncomputable section
def sh57:List OSh:=[(.box 30 (.st 6)),(.box 51 (.st 1))]
def sh58:List OSh:=[(.box 30 (.st 6)),(.lst 9 .str)]
def sh59:List OSh:=[(.box 30 (.st 6)),(.box 39 (.st 2))]
def sh60:List OSh:=[(.box 30 (.st 6)),(.box 46 (.st 0))]
def sh61:List OSh:=[(.box 30 (.st 6)),(.box 46 (.st 0)),(.lst 3 (.int .i64))]
def sh62:List OSh:=[(.box 30 (.st 6)),(.lst 4 .bool)]
def sh63:List OSh:=[(.box 30 (.st 6)),(.lst 4 .bool),(.box 41 (.st 3)),(.lst 4 .bool)]
def sh64:List OSh:=[(.cells 69 [(.full 4)]),(.cells 25 [(.full 6)]),(.box 30 (.st 6)),(.cells 120 [(.fn 101 [(.ptr 0 0),(.ptr 1 0),(.ptr 2 0),(.ptr 3 0)])]),(.lst 4 .bool),.dead,(.lst 3 (.int .i64))]
def sh65:List OSh:=[(.lst 3 (.int .i64)),(.cells 23 [(.fn 67 [(.ptr 2 0),(.ptr 8 0),(.ptr 10 0)])]),(.cells 30 [.s,(.full 3),(.full 4),(.full 5),(.full 6),(.full 7)]),(.lst 3 (.int .i64)),(.lst 53 (.st 4)),(.lst 55 (.st 5)),(.lst 3 (.int .i64)),(.lst 41 (.st 14)),(.cells 91 [(.qca 9)]),(.mp false (.int .i64)),(.cells 25 [(.full 12)]),.dead,(.lst 3 (.int .i64))]
def sh66:List (Nat×Sh):=[(1,(.ptr 0 0)),(3,(.full 1)),(4,(.i .i64)),(5,(.ptr 2 0))]
def sh67:List OSh:=[(.box 30 (.st 6)),(.lst 9 .str),(.box 53 (.st 4))]
def sh68:List OSh:=[(.box 46 (.st 0)),(.lst 3 (.int .i64))]
def sh20:SSh:=⟨[(1,(.ptr 0 0)),(3,(.i .i64))],[(.box 30 (.st 6))]⟩
def sh21:SSh:=⟨[(1,(.ptr 0 0)),(3,(.i .i64)),(4,(.i .i64))],[(.box 30 (.st 6))]⟩
def sh22:SSh:=⟨[(2,.b)],[]⟩
def sh23:SSh:=⟨[(0,(.i .u8)),(1,(.i .i64)),(5,(.i .i64))],[]⟩
def sh24:SSh:=⟨[(0,(.fz (.int .i64))),(3,(.i .u64)),(4,(.i .i64))],[]⟩
def sh25:SSh:=⟨[(0,(.fz (.int .i64))),(1,(.i .i64))],[]⟩
def sh26:SSh:=⟨[(0,(.fz (.int .i64))),(1,(.i .i64)),(5,(.i .i64))],[]⟩
def sh27:SSh:=⟨[(1,(.fz (.int .i64))),(2,(.fz .bool)),(3,(.ptr 0 0)),(7,(.i .i64))],[(.box 30 (.st 6))]⟩
def sh28:SSh:=⟨[(0,(.i .i64)),(1,(.i .u64)),(5,(.full 0)),(6,(.i .i64))],[(.lst 3 (.int .i64))]⟩
def sh29:SSh:=⟨[(0,.s),(3,(.i .i64))],[]⟩
def sh30:SSh:=⟨[(3,(.ptr 0 0)),(4,(.ptr 1 0)),(7,(.fz (.int .i64))),(8,(.i .i64))],sh57⟩
def sh31:SSh:=⟨[(1,(.ptr 0 0)),(3,(.full 1))],sh58⟩
def sh32:SSh:=⟨[(1,(.ptr 0 0)),(3,(.full 1)),(4,(.i .i64))],sh58⟩
def sh33:SSh:=⟨[(1,(.ptr 0 0)),(3,(.full 1)),(6,(.i .i64))],sh58⟩
def sh34:SSh:=⟨[(1,(.ptr 0 0))],[(.box 30 (.st 6))]⟩
def sh35:SSh:=⟨[(1,(.ptr 0 0)),(3,(.full 1)),(7,(.i .i64))],sh58⟩
def sh36:SSh:=⟨[(1,(.ptr 0 0)),(3,(.full 1)),(7,(.i .i64)),(8,(.i .i64))],sh58⟩
def sh37:SSh:=⟨[(2,(.fz .bool)),(3,(.ptr 0 0)),(4,(.ptr 1 0)),(7,(.i .i64))],sh59⟩
def sh38:SSh:=⟨[(2,(.fz .bool)),(3,(.ptr 0 0)),(4,(.ptr 1 0)),(7,(.i .i64)),(8,(.i .i64))],sh59⟩
def sh39:SSh:=⟨[(2,(.fz .bool)),(3,(.ptr 0 0)),(4,(.ptr 1 0))],sh59⟩
def sh40:SSh:=⟨[(2,(.fz .bool)),(3,(.ptr 0 0)),(4,(.ptr 1 0)),(9,(.i .i64))],sh59⟩
def sh41:SSh:=⟨[(2,(.ptr 0 0)),(3,(.ptr 1 0)),(5,.b)],sh60⟩
def sh42:SSh:=⟨[(2,(.ptr 0 0)),(3,(.ptr 1 0)),(5,.b),(6,(.i .i64)),(7,(.full 2))],sh61⟩
def sh43:SSh:=⟨[(2,(.ptr 0 0)),(3,(.ptr 1 0)),(5,.b),(6,(.i .i64)),(7,(.full 2)),(8,(.i .i64))],sh61⟩
def sh44:SSh:=⟨[(2,(.ptr 0 0)),(3,(.ptr 1 0)),(6,(.i .i64)),(7,(.full 2))],sh61⟩
def sh45:SSh:=⟨[(1,(.ptr 0 0)),(3,(.full 1))],sh62⟩
def sh46:SSh:=⟨[(1,(.ptr 0 0)),(3,(.full 1)),(46,(.i .i64)),(47,(.i .i64))],sh62⟩
def sh47:SSh:=⟨[(1,(.ptr 0 0)),(3,(.full 1)),(4,(.i .i64))],sh62⟩
def sh48:SSh:=⟨[(1,(.ptr 0 0)),(3,(.full 1)),(4,(.i .i64)),(5,(.ptr 2 0)),(6,(.full 3))],sh63⟩
def sh49:SSh:=⟨[(1,(.ptr 0 0)),(3,(.full 1)),(4,(.i .i64)),(5,(.ptr 2 0)),(6,(.full 3)),(101,(.i .i64)),(102,(.i .i64))],sh63⟩
def sh50:SSh:=⟨[(1,(.ptr 0 0)),(3,(.full 1)),(4,(.i .i64)),(5,(.ptr 2 0)),(6,(.full 3)),(7,(.i .i64))],sh63⟩
def sh51:SSh:=⟨[(1,(.ptr 0 0)),(3,(.full 1)),(4,(.i .i64)),(5,(.ptr 2 0)),(6,(.full 3)),(9,(.i .i64))],sh63⟩
def sh52:SSh:=⟨[(1,(.ptr 0 0)),(3,(.full 1)),(4,(.i .i64)),(5,(.ptr 2 0)),(6,(.full 3)),(9,(.i .i64)),(10,(.ptr 4 0))],[(.box 30 (.st 6)),(.lst 4 .bool),(.box 41 (.st 3)),(.lst 4 .bool),(.box 46 (.st 0))]⟩
def sh53:SSh:=⟨[(4,(.ptr 3 0)),(35,(.fz (.st 1))),(36,(.i .i64)),(37,(.i .i64))],sh64⟩
def sh54:SSh:=⟨[(0,(.i .i64)),(1,(.ptr 0 0)),(2,(.ptr 6 0)),(3,(.ptr 8 0))],[(.cells 30 [.s,(.full 1),(.full 2),(.full 3),(.full 4),(.full 5)]),(.lst 3 (.int .i64)),(.lst 53 (.st 4)),(.lst 55 (.st 5)),(.lst 3 (.int .i64)),(.lst 41 (.st 14)),(.cells 91 [(.qca 7)]),(.mp false (.int .i64)),(.cells 25 [(.full 9)]),(.lst 3 (.int .i64))]⟩
def sh55:SSh:=⟨[(0,(.fz (.int .i64))),(1,(.fz (.int .i64))),(5,(.i .i64))],[]⟩
def sh56:SSh:=⟨[(0,(.full 0)),(1,(.ptr 1 0)),(5,(.full 0)),(6,(.i .i64)),(7,(.i .i64))],sh65⟩
abbrev ty14:=(Fn×((List Bool)×(Block×((List Bool)×Unit))))
abbrev ty6:=((Unit×(Unit×(Int×(Unit×(Unit×(Int×Unit))))))×ty14)
abbrev ty1:=(ty6⊕(((Unit×(Unit×(Int×(Unit×(Unit×Unit)))))×ty14)⊕((Bool×Unit)×Unit)))
abbrev ty4:=((Unit×(Unit×(Int×Unit)))×(Fn×((List ByteArray)×Unit)))
abbrev ty2:=(ty4⊕(((Unit×(Unit×Unit))×(Fn×((List ByteArray)×Unit)))⊕((Bool×Unit)×Unit)))
abbrev ty9:=(Unit×(Unit×(Unit×Unit)))
abbrev ty3:=((ByteArray×(Unit×(Unit×ty9)))×((List Int)×((List Arr)×((List qbd)×((List Int)×((List qac)×((Unit×Unit)×((qb1->(Option Int))×((Unit×Unit)×(Unit×((List Int)×Unit)))))))))))
abbrev ty5:=((Unit×Unit)×((Unit×Unit)×(Fn×(((Unit×ty9)×Unit)×((List Bool)×(Unit×((List Int)×Unit)))))))
abbrev ty7:=(Unit×(Unit×(Int×(Int×Unit))))
abbrev ty8:=(((List Bool)×(Unit×(Unit×(Int×Unit))))×(Fn×(Term×Unit)))
abbrev ty10:=((Unit×Unit)⊕((Bool×Unit)×Unit))
abbrev ty11:=((List Int)×(Int×(Int×Unit)))
abbrev ty12:=(qat×((List Int)×Unit))
abbrev ty13:=(Int×(Unit×(Int×Unit)))
abbrev ty15:=(((ByteArray×(Int×Unit))×Unit)⊕(((ByteArray×Unit)×Unit)⊕((Bool×Unit)×Unit)))
abbrev ty16:=((List Int)×((ty9×Unit)×ty3))
abbrev ty17:=((List Int)×(Int×Unit))
abbrev ty18:=(Fn×((List Bool)×Unit))
abbrev ty19:=((Int×(Bool×Unit))×Unit)
def ann42:Ann:=(.seq .o (.seq .o .o))
def go42(x0:Int):(Option (Bool×Unit)):=(bif(decide (2<=x0))then(some ((decide (x0<=20)),()))else(some (false,())))
theorem run42(x0:Int):qdd (P:=Try.prog) [] Try.f42 ann42 [(0,(.i .i64))] [] .b [] (x0,()) ()=go42 x0:=by kernel_rfl
def ann43:Ann:=(.seq .o (.seq .o .o))
def go43(x0:Int):(Option (Bool×Unit)):=(bif(decide (2<=x0))then(some ((decide (x0<=20)),()))else(some (false,())))
theorem run43(x0:Int):qdd (P:=Try.prog) [] Try.f43 ann43 [(0,(.i .i64))] [] .b [] (x0,()) ()=go43 x0:=by kernel_rfl
def ann15:Ann:=(.seq .o (.seq .o .o))
def go15(x0:Int):(Option (Bool×Unit)):=(bif(decide (1<=x0))then(some ((decide (x0<=24)),()))else(some (false,())))
theorem run15(x0:Int):qdd (P:=Try.prog) [] Try.f15 ann15 [(0,(.i .i64))] [] .b [] (x0,()) ()=go15 x0:=by kernel_rfl
def ann92:Ann:=(.seq .o (.seq .o .o))
def go92(x0:Int):(Option (Bool×Unit)):=(bif(decide (1<=x0))then(some ((decide (x0<=64)),()))else(some (false,())))
theorem run92(x0:Int):qdd (P:=Try.prog) [] Try.f92 ann92 [(0,(.i .i64))] [] .b [] (x0,()) ()=go92 x0:=by kernel_rfl
def ann94:Ann:=(.seq .o (.seq .o .o))
def go94(x0:Int):(Option (Bool×Unit)):=(bif(decide (15<=x0))then(some ((decide (x0<=20)),()))else(some (false,())))
theorem run94(x0:Int):qdd (P:=Try.prog) [] Try.f94 ann94 [(0,(.i .i64))] [] .b [] (x0,()) ()=go94 x0:=by kernel_rfl
def ann90:Ann:=(.seq .o (.seq .o .o))
def go90(x0:Int):(Option (Bool×Unit)):=(bif(decide (97<=x0))then(bif(decide (x0<=122))then(some (true,()))else(bif(decide (65<=x0))then(bif(decide (x0<=90))then(some (true,()))else(some ((decide (x0=95)),())))else(some ((decide (x0=95)),()))))else(bif(decide (65<=x0))then(bif(decide (x0<=90))then(some (true,()))else(some ((decide (x0=95)),())))else(some ((decide (x0=95)),()))))
theorem run90(x0:Int):qdd (P:=Try.prog) [] Try.f90 ann90 [(0,(.i .u8))] [] .b [] (x0,()) ()=go90 x0:=by kernel_rfl
def ann47:Ann:=(.seq .o (.seq .o .o))
def go47(x0:Fn)(x1:Int):(Option (Bool×Unit)):=(bif(decide (0<=x1))then(some ((decide (x1<(x0.qaa.length:Int))),()))else(some (false,())))
theorem run47(x0:Fn)(x1:Int):qdd (P:=Try.prog) [] Try.f47 ann47 [(0,(.st 6)),(1,(.i .i64))] [] .b [] (x0,(x1,())) ()=go47 x0 x1:=by kernel_rfl
def ann78:Ann:=(.seq .o (.seq .o .o))
def go78(x0:Int):(Option (Int×Unit)):=(some ((if(64<(if(0>x0)then 0 else x0))then 64 else(if(0>x0)then 0 else x0)),()))
theorem run78(x0:Int):qdd (P:=Try.prog) [] Try.f78 ann78 [(0,(.i .i64))] [] (.i .i64) [] (x0,()) ()=go78 x0:=by kernel_rfl
def ann17:Ann:=(.seq .o (.seq .o (.join sh20 (.seq .o (.block (.loop sh21 [((.exit 0),sh20),(.ret,sh22)] (.join sh21 (.seq .o (.cond .o .o)) (.join sh21 (.block (.seq .w (.seq .o (.cond (.seq .o .o) .o)))) .o))))) (.seq .o .o))))
def go17_l1:((Unit×(Int×(Int×Unit)))×(Fn×Unit))->Option (((Unit×(Int×(Int×Unit)))×(Fn×Unit))⊕(((Unit×(Int×Unit))×(Fn×Unit))⊕((Bool×Unit)×Unit))):=(fun r0=>(bif(decide (r0.1.2.2.1<(r0.2.1.blocks.length:Int)))then(grd (okB ((0<=r0.1.2.2.1)/\(r0.1.2.2.1<(r0.2.1.blocks.length:Int)))) (grd (okB ((0<=r0.1.2.2.1)/\(r0.1.2.2.1<(r0.2.1.blocks.length:Int)))) (bif(decide (100<(((r0.2.1.blocks.getD r0.1.2.2.1.toNat Block.z).params.length:Nat):Int)))then(some (Sum.inr (Sum.inr ((false,()),()))))else(grd (okB (((-9223372036854775808)<=(r0.1.2.2.1+1))/\((r0.1.2.2.1+1)<=9223372036854775807))) (some (Sum.inl (((),((Go.IntKind.wrap Go.IntKind.i64 (r0.1.2.1+(((r0.2.1.blocks.getD r0.1.2.2.1.toNat Block.z).insts.length:Nat):Int))),((r0.1.2.2.1+1),()))),(r0.2.1,()))))))))else(some (Sum.inr (Sum.inl (((),(r0.1.2.1,())),(r0.2.1,())))))))
def go17(x0:Fn):(Option (Bool×Unit)):=(qaj (qap (go17_l1) (((),(0,(0,()))),(x0,()))) (fun z0=>(qgu (fun z1=>(bif(decide ((z1.2.1.blocks.length:Int)<=30))then(bif(decide (z1.1.2.1<=300))then(some ((decide ((z1.2.1.qaa.length:Int)<=600)),()))else(some (false,())))else(some (false,())))) (fun z1=>(some (z1.1.1,()))) z0)))
theorem run17(x0:Fn):qdd (P:=Try.prog) [] Try.f17 ann17 [(0,(.st 6))] [] .b [] (x0,()) ()=go17 x0:=by kernel_rfl
def ann91:Ann:=(.seq .o (.seq .o (.join sh23 (.seq .o (.cond .o .o)) (.join sh23 (.seq .o (.cond .o .o)) (.join ⟨[(1,(.i .i64)),(5,(.i .i64))],[]⟩ (.seq .o (.cond .o .o)) (.join ⟨[(5,(.i .i64))],[]⟩ (.seq .o (.cond (.seq .o .o) .o)) (.seq .o .o)))))))
def go91_j3:((Int×(Int×Unit))×Unit)->Option (Int×Unit):=(fun z2=>(bif(decide (z2.1.1<=z2.1.2.1))then(some ((-1),()))else(some (z2.1.2.1,()))))
def go91_j2:((Int×(Int×(Int×Unit)))×Unit)->Option (Int×Unit):=(fun z1=>(jpO (go91_j3) (fun j0=>(bif(decide (65<=z1.1.1))then(bif(decide (z1.1.1<=70))then(grd (okB (((-9223372036854775808)<=((Go.IntKind.wrap Go.IntKind.i64 (Go.IntKind.wrap Go.IntKind.u8 (z1.1.1-65)))+10))/\(((Go.IntKind.wrap Go.IntKind.i64 (Go.IntKind.wrap Go.IntKind.u8 (z1.1.1-65)))+10)<=9223372036854775807))) (j0 ((z1.1.2.1,(((Go.IntKind.wrap Go.IntKind.i64 (Go.IntKind.wrap Go.IntKind.u8 (z1.1.1-65)))+10),())),())))else(j0 ((z1.1.2.1,(z1.1.2.2.1,())),())))else(j0 ((z1.1.2.1,(z1.1.2.2.1,())),()))))))
def go91_j1:((Int×(Int×(Int×Unit)))×Unit)->Option (Int×Unit):=(fun z0=>(jpO (go91_j2) (fun j0=>(bif(decide (97<=z0.1.1))then(bif(decide (z0.1.1<=102))then(grd (okB (((-9223372036854775808)<=((Go.IntKind.wrap Go.IntKind.i64 (Go.IntKind.wrap Go.IntKind.u8 (z0.1.1-97)))+10))/\(((Go.IntKind.wrap Go.IntKind.i64 (Go.IntKind.wrap Go.IntKind.u8 (z0.1.1-97)))+10)<=9223372036854775807))) (j0 ((z0.1.1,(z0.1.2.1,(((Go.IntKind.wrap Go.IntKind.i64 (Go.IntKind.wrap Go.IntKind.u8 (z0.1.1-97)))+10),()))),())))else(j0 ((z0.1.1,(z0.1.2.1,(z0.1.2.2.1,()))),())))else(j0 ((z0.1.1,(z0.1.2.1,(z0.1.2.2.1,()))),()))))))
def go91(x0:Int)(x1:Int):(Option (Int×Unit)):=(jpO (go91_j1) (fun j0=>(bif(decide (48<=x0))then(bif(decide (x0<=57))then(j0 ((x0,(x1,((Go.IntKind.wrap Go.IntKind.i64 (Go.IntKind.wrap Go.IntKind.u8 (x0-48))),()))),()))else(j0 ((x0,(x1,((-1),()))),())))else(j0 ((x0,(x1,((-1),()))),())))))
theorem run91(x0:Int)(x1:Int):qdd (P:=Try.prog) [] Try.f91 ann91 [(0,(.i .u8)),(1,(.i .i64))] [] (.i .i64) [] (x0,(x1,())) ()=go91 x0 x1:=by kernel_rfl
def ann79:Ann:=(.seq .o (.seq .o (.join ⟨[(3,(.i .u64))],[]⟩ (.seq .o (.block (.loop sh24 [((.exit 0),⟨[(3,(.i .u64))],[]⟩)] (.join sh24 (.seq .o (.cond .o .o)) (.join sh24 (.block .o) .o))))) (.seq .o .o))))
def go79_l1:(ty11×Unit)->Option ((ty11×Unit)⊕((Int×Unit)×Unit)):=(fun r0=>(bif(decide (0<=r0.1.2.2.1))then(grd (okB ((0<=r0.1.2.2.1)/\(r0.1.2.2.1<(r0.1.1.length:Int)))) (grd (okB (((-9223372036854775808)<=(r0.1.2.2.1-1))/\((r0.1.2.2.1-1)<=9223372036854775807))) (some (Sum.inl ((r0.1.1,((Go.IntKind.wrap Go.IntKind.u64 ((Go.IntKind.wrap Go.IntKind.u64 (2*r0.1.2.1))+(Go.IntKind.wrap Go.IntKind.u64 (r0.1.1.getD r0.1.2.2.1.toNat 0)))),((r0.1.2.2.1-1),()))),())))))else(some (Sum.inr ((r0.1.2.1,()),())))))
def go79(x0:(List Int)):(Option (Int×Unit)):=(grd (okB (((-9223372036854775808)<=((x0.length:Int)-1))/\(((x0.length:Int)-1)<=9223372036854775807))) (qaj (qap (go79_l1) ((x0,(0,(((x0.length:Int)-1),()))),())) (fun z0=>(some (z0.1.1,())))))
theorem run79(x0:(List Int)):qdd (P:=Try.prog) [] Try.f79 ann79 [(0,(.fz (.int .i64)))] [] (.i .u64) [] (x0,()) ()=go79 x0:=by kernel_rfl
def Sp.qdz(op:Int):Bool:=decide (2<=op)&&decide (op<=20)
theorem ok42(op:Int):go42 op=some (Sp.qdz op,()):=by
 unfold go42 Sp.qdz;by_cases h:2<=op<;>simp[h]
def c42:Ctr Try.prog:=qbl 42 Try.f42 Try.func42 [] ann42 [(0,(.i .i64))] [] .b [] (fun x _=>some (Sp.qdz x.1,())) (fun x _ r h=>FE (run42 x.1) (ok42 x.1) h)
theorem ok43(op:Int):go43 op=some (Sp.qdz op,()):=by
 unfold go43 Sp.qdz;by_cases h:2<=op<;>simp[h]
def c43:Ctr Try.prog:=qbl 43 Try.f43 Try.func43 [] ann43 [(0,(.i .i64))] [] .b [] (fun x _=>some (Sp.qdz x.1,())) (fun x _ r h=>FE (run43 x.1) (ok43 x.1) h)
def Sp.qrx(op:Int):Bool:=decide (1<=op)&&decide (op<=24)
theorem ok15(op:Int):go15 op=some (Sp.qrx op,()):=by
 unfold go15 Sp.qrx;by_cases h:1<=op<;>simp[h]
def c15:Ctr Try.prog:=qbl 15 Try.f15 Try.func15 [] ann15 [(0,(.i .i64))] [] .b [] (fun x _=>some (Sp.qrx x.1,())) (fun x _ r h=>FE (run15 x.1) (ok15 x.1) h)
def Sp.right(w:Int):Bool:=decide (1<=w)&&decide (w<=64)
theorem ok92(op:Int):go92 op=some (Sp.right op,()):=by
 unfold go92 Sp.right;by_cases h:1<=op<;>simp[h]
def c92:Ctr Try.prog:=qbl 92 Try.f92 Try.func92 [] ann92 [(0,(.i .i64))] [] .b [] (fun x _=>some (Sp.right x.1,())) (fun x _ r h=>FE (run92 x.1) (ok92 x.1) h)
def Sp.qcz(op:Int):Bool:=decide (15<=op)&&decide (op<=20)
theorem ok94(op:Int):go94 op=some (Sp.qcz op,()):=by
 unfold go94 Sp.qcz;by_cases h:15<=op<;>simp[h]
def c94:Ctr Try.prog:=qbl 94 Try.f94 Try.func94 [] ann94 [(0,(.i .i64))] [] .b [] (fun x _=>some (Sp.qcz x.1,())) (fun x _ r h=>FE (run94 x.1) (ok94 x.1) h)
def Sp.letter(c:Int):Bool:=(decide (97<=c)&&decide (c<=122))||(decide (65<=c)&&decide (c<=90))||decide (c=95)
theorem ok90(c:Int):go90 c=some (Sp.letter c,()):=by
 unfold go90 Sp.letter;by_cases h1:97<=c<;>by_cases h2:c<=122<;>by_cases h3:65<=c<;>by_cases h4:c<=90<;>simp[h1,h2,h3,h4]
def c90:Ctr Try.prog:=qbl 90 Try.f90 Try.func90 [] ann90 [(0,(.i .u8))] [] .b [] (fun x _=>some (Sp.letter x.1,())) (fun x _ r h=>FE (run90 x.1) (ok90 x.1) h)
def Sp.within(f:Fn)(v:Int):Bool:=decide (0<=v)&&decide (v<f.qaa.length)
theorem ok47(f:Fn)(v:Int):go47 f v=some (Sp.within f v,()):=by
 unfold go47 Sp.within;by_cases h:0<=v<;>simp[h]
def c47:Ctr Try.prog:=qbl 47 Try.f47 Try.func47 [] ann47 [(0,(.st 6)),(1,(.i .i64))] [] .b [] (fun x _=>some (Sp.within x.1 x.2.1,())) (fun x _ r h=>FE (run47 x.1 x.2.1) (ok47 x.1 x.2.1) h)
abbrev Fn.blk(f:Fn)(i:Nat):Block:=f.blocks.getD i Block.z
theorem Fn.q07{f:Fn}(h:f.ok):f.blocks.length<=LEN:=h.2.2.2.2.2.len
theorem Fn.qvy{f:Fn}(h:f.ok){i:Nat}(hi:i<f.blocks.length):(f.blk i).ok:=qgm h.2.2.2.2.2 _ hi
def Sp.qmx(l:List Block):Nat->Int
 |0=>0
 |i+1=>IntKind.i64.wrap (Sp.qmx l i+((l.getD i Block.z).insts.length:Int))
def Sp.few(f:Fn):Bool:=f.blocks.all (fun b=>!decide (100<(b.params.length:Int)))&&decide ((f.blocks.length:Int)<=30)&&decide (Sp.qmx f.blocks f.blocks.length<=300)&&decide ((f.qaa.length:Int)<=600)
theorem ok17(f:Fn)(hf:f.ok):go17 f=some (Sp.few f,()):=by
 have hb:=Fn.q07 hf;rw[qcl]at hb;unfold go17 go17_l1;refine qa5 (qa6 (l:=f.blocks) (st:=fun i=>(((),Sp.qmx f.blocks i,(i:Int),()),f,())) rfl Block.z (fun b=>!decide (100<(b.params.length:Int)))
  (A:=.inl (((),Sp.qmx f.blocks f.blocks.length,()),f,())) (B:=.inr ((false,()),())) (fun i hi hp=>?_) (fun i hi hp=>?_) (fun _=>?_)) ?_
 ·have hp:¬ 100<(((f.blocks.getD i Block.z).params.length:Nat):Int):=by simpa using hp
  simp(maxSteps:=1000000) (disch:=((try dsimp only);omega)) only[↓gsA,gsB]
  rfl
 ·have hp:100<(((f.blocks.getD i Block.z).params.length:Nat):Int):=by simpa using hp
  simp(maxSteps:=1000000) (disch:=((try dsimp only);omega)) only[↓gsA,gsB]
 ·simp(maxSteps:=1000000) (disch:=((try dsimp only);omega)) only[↓gsA,gsB]
 ·unfold Sp.few;by_cases h:(f.blocks.all fun b=>!decide (100<(b.params.length:Int)))=true
  ·rw[if_pos h,h];by_cases h1:(f.blocks.length:Int)<=30<;>by_cases h2:Sp.qmx f.blocks f.blocks.length<=300<;>simp[h1,h2]
  ·rw[if_neg h,eq_false_of_ne_true h];simp
def c17:Ctr Try.prog:=qbl 17 Try.f17 Try.func17 [] ann17 [(0,(.st 6))] [] .b [] (fun x _=>grd (okB x.1.ok) (some (Sp.few x.1,()))) (fun x _ r h=>FO (run17 x.1) (ok17 x.1) h)
def Sp.width(w:Int):Int:=if 64<(if w<0 then 0 else w)then 64 else(if w<0 then 0 else w)
theorem qiy(w:Int):0<=Sp.width w/\Sp.width w<=64:=by unfold Sp.width;split<;>split<;>omega
theorem ok78(w:Int):go78 w=some (Sp.width w,()):=by unfold go78 Sp.width;rfl
def c78:Ctr Try.prog:=qbl 78 Try.f78 Try.func78 [] ann78 [(0,(.i .i64))] [] (.i .i64) [] (fun x _=>some (Sp.width x.1,())) (fun x _ r h=>FE (run78 x.1) (ok78 x.1) h)
def Sp.q2t(c:Int):Int:=if 48<=c/\c<=57 then c-48 else -1
def Sp.q2s(c:Int):Int:=if 97<=c/\c<=102 then c-97+10 else Sp.q2t c
def Sp.qww(c:Int):Int:=if 65<=c/\c<=70 then c-65+10 else Sp.q2s c
def Sp.digit(c base:Int):Int:=if base<=Sp.qww c then -1 else Sp.qww c
theorem ok91(c base:Int):go91 c base=some (Sp.digit c base,()):=by
 have u:∀z:Int,0<=z->z<=255->IntKind.i64.wrap (IntKind.u8.wrap z)=z:=fun z h1 h2=>by
  rw[IntWalk.u8_in _ (by omega),qdv (by omega) (by omega)]
 unfold go91 go91_j1 go91_j2 go91_j3 Sp.digit Sp.qww Sp.q2s Sp.q2t
 by_cases a1:48<=c<;>by_cases a2:c<=57<;>by_cases a3:97<=c<;>by_cases a4:c<=102<;>by_cases a5:65<=c<;>by_cases a6:c<=70<;>first
  |omega
  | (simp(disch:=omega) only[a1,a2,a3,a4,a5,a6,u,qcp,qb8,if_true,if_false,and_self,and_true,true_and,and_false,false_and,qin]
     first|rfl|(split<;>rfl))
def c91:Ctr Try.prog:=qbl 91 Try.f91 Try.func91 [] ann91 [(0,(.i .u8)),(1,(.i .i64))] [] (.i .i64) [] (fun x _=>some (Sp.digit x.1 x.2.1,())) (fun x _ r h=>FE (run91 x.1 x.2.1) (ok91 x.1 x.2.1) h)
def Sp.wd(l:List Int):Nat->Int
 |0=>0
 |k+1=>IntKind.u64.wrap (IntKind.u64.wrap (2*Sp.wd l k)+IntKind.u64.wrap (l.getD (l.length-1-k) 0))
theorem ok79(l:List Int)(hl:l.length<=LEN):go79 l=some (Sp.wd l l.length,()):=by
 rw[qcl]at hl;unfold go79 go79_l1;simp(maxSteps:=1000000) (disch:=((try dsimp only);omega)) only[↓gsA,gsB]
 refine qa5 (qcj (st:=fun k=>((l,Sp.wd l k,(l.length:Int)-1-k,()),())) (by simp[Sp.wd]) l.length (X0:=((Sp.wd l l.length,()),())) (fun k hk=>?_) ?_) ?_
 ·have e:l.length-1-k=((l.length:Int)-1-k).toNat:=by omega
  have e2:(l.length:Int)-1-((k+1:Nat):Int)=(l.length:Int)-1-k-1:=by omega
  simp(maxSteps:=1000000) (disch:=((try dsimp only);omega)) only[↓gsA,gsB]
  simp only[Sp.wd,e];rw[<- e2];rfl
 ·simp(maxSteps:=1000000) (disch:=((try dsimp only);omega)) only[↓gsA,gsB]
 ·rfl
def c79:Ctr Try.prog:=qbl 79 Try.f79 Try.func79 [] ann79 [(0,(.fz (.int .i64)))] [] (.i .u64) [] (fun x _=>grd (okB (x.1.length<=LEN)) (some (Sp.wd x.1 x.1.length,()))) (fun x _ r h=>FO (run79 x.1) (ok79 x.1) h)
end
end Go.Abs
namespace Go.Abs
open Go Go.Proofs
noncomputable section
def ann13:Ann:=(.seq .o (.join ⟨[],[]⟩ (.block (.seq .o (.cond (.seq .o .o) (.join ⟨[(0,(.i .i64)),(6,.b)],[]⟩ (.seq .o (.cond .o (.seq .o (.cond .o .o)))) (.cond (.seq .o .o) (.join ⟨[(0,(.i .i64)),(13,.b)],[]⟩ (.seq .o (.cond .o .o)) (.cond (.seq .o .o) (.join ⟨[(18,.b)],[]⟩ (.seq .o (.cond .o (.seq .o (.cond .o (.seq .o (.cond .o .o)))))) (.cond (.seq .o .o) .o))))))))) (.seq .o .o)))
def go13_j3:((Bool×Unit)×Unit)->Option (Int×Unit):=(fun z2=>(bif z2.1.1 then(some (1,()))else(some ((-1),()))))
def go13_j2:ty19->Option (Int×Unit):=(fun z1=>(bif z1.1.2.1 then(some (3,()))else(jpO (go13_j3) (fun j0=>(bif(decide (z1.1.1=22))then(j0 ((true,()),()))else(bif(decide (z1.1.1=23))then(j0 ((true,()),()))else(bif(decide (z1.1.1=24))then(j0 ((true,()),()))else(j0 (((decide (z1.1.1=27)),()),())))))))))
def go13_j1:ty19->Option (Int×Unit):=(fun z0=>(bif z0.1.2.1 then(some (2,()))else(jpO (go13_j2) (fun j0=>(bif(decide (z0.1.1=21))then(j0 ((z0.1.1,(true,())),()))else(j0 ((z0.1.1,((decide (z0.1.1=26)),())),())))))))
def go13(x0:Int):(Option (Int×Unit)):=(bif(decide (x0=1))then(some (0,()))else(jpO (go13_j1) (fun j0=>(bif(Sp.qdz x0)then(j0 ((x0,(true,())),()))else(bif(decide (x0=25))then(j0 ((x0,(true,())),()))else(j0 ((x0,((decide (x0=28)),())),())))))))
theorem run13(x0:Int):qdd (P:=Try.prog) [c42] Try.f13 ann13 [(0,(.i .i64))] [] (.i .i64) [] (x0,()) ()=go13 x0:=by kernel_rfl
def ann14:Ann:=(.seq .o (.join ⟨[],[]⟩ (.block (.seq .o (.cond (.seq .o .o) (.join ⟨[(0,(.i .i64)),(6,.b)],[]⟩ (.seq .o (.cond .o (.seq .o (.cond .o .o)))) (.cond (.seq .o .o) (.join ⟨[(0,(.i .i64)),(13,.b)],[]⟩ (.seq .o (.cond .o .o)) (.cond (.seq .o .o) (.join ⟨[(18,.b)],[]⟩ (.seq .o (.cond .o (.seq .o (.cond .o (.seq .o (.cond .o .o)))))) (.cond (.seq .o .o) .o))))))))) (.seq .o .o)))
def go14_j3:((Bool×Unit)×Unit)->Option (Int×Unit):=(fun z2=>(bif z2.1.1 then(some (1,()))else(some ((-1),()))))
def go14_j2:ty19->Option (Int×Unit):=(fun z1=>(bif z1.1.2.1 then(some (3,()))else(jpO (go14_j3) (fun j0=>(bif(decide (z1.1.1=22))then(j0 ((true,()),()))else(bif(decide (z1.1.1=23))then(j0 ((true,()),()))else(bif(decide (z1.1.1=24))then(j0 ((true,()),()))else(j0 (((decide (z1.1.1=27)),()),())))))))))
def go14_j1:ty19->Option (Int×Unit):=(fun z0=>(bif z0.1.2.1 then(some (2,()))else(jpO (go14_j2) (fun j0=>(bif(decide (z0.1.1=21))then(j0 ((z0.1.1,(true,())),()))else(j0 ((z0.1.1,((decide (z0.1.1=26)),())),())))))))
def go14(x0:Int):(Option (Int×Unit)):=(bif(decide (x0=1))then(some (0,()))else(jpO (go14_j1) (fun j0=>(bif(Sp.qdz x0)then(j0 ((x0,(true,())),()))else(bif(decide (x0=25))then(j0 ((x0,(true,())),()))else(j0 ((x0,((decide (x0=28)),())),())))))))
theorem run14(x0:Int):qdd (P:=Try.prog) [c43] Try.f14 ann14 [(0,(.i .i64))] [] (.i .i64) [] (x0,()) ()=go14 x0:=by kernel_rfl
def ann46:Ann:=(.seq .o (.join sh25 (.seq .o (.block (.loop sh26 [((.exit 0),sh25),(.ret,⟨[(4,.b)],[]⟩)] (.join sh26 (.seq .o (.cond .o .o)) (.join sh26 (.block (.seq .o (.cond (.seq .o .o) .o))) .o))))) (.seq .o .o)))
def go46_l1:(ty11×Unit)->Option ((ty11×Unit)⊕((ty17×Unit)⊕((Bool×Unit)×Unit))):=(fun r0=>(bif(decide (r0.1.2.2.1<(r0.1.1.length:Int)))then(grd (okB ((0<=r0.1.2.2.1)/\(r0.1.2.2.1<(r0.1.1.length:Int)))) (bif(!(Sp.right (r0.1.1.getD r0.1.2.2.1.toNat 0)))then(some (Sum.inr (Sum.inr ((false,()),()))))else(grd (okB (((-9223372036854775808)<=(r0.1.2.2.1+1))/\((r0.1.2.2.1+1)<=9223372036854775807))) (some (Sum.inl ((r0.1.1,(r0.1.2.1,((r0.1.2.2.1+1),()))),()))))))else(some (Sum.inr (Sum.inl ((r0.1.1,(r0.1.2.1,())),()))))))
def go46(x0:(List Int))(x1:Int):(Option (Bool×Unit)):=(qaj (qap (go46_l1) ((x0,(x1,(0,()))),())) (fun z0=>(qgu (fun z1=>(some ((decide ((z1.1.1.length:Int)<=z1.1.2.1)),()))) (fun z1=>(some (z1.1.1,()))) z0)))
theorem run46(x0:(List Int))(x1:Int):qdd (P:=Try.prog) [c92] Try.f46 ann46 [(0,(.fz (.int .i64))),(1,(.i .i64))] [] .b [] (x0,(x1,())) ()=go46 x0 x1:=by kernel_rfl
def ann48:Ann:=(.seq .o (.join ⟨[],[]⟩ (.seq .o (.block (.loop sh27 [((.exit 0),⟨[],[]⟩),(.ret,⟨[(6,.b)],[]⟩)] (.join sh27 (.seq .o (.cond .o .o)) (.join sh27 (.block (.seq .o (.cond (.seq .o .o) .o))) .o))))) (.seq .o .o)))
def go48_l1:(((List Int)×((List Bool)×(Unit×(Int×Unit))))×(Fn×Unit))->Option ((((List Int)×((List Bool)×(Unit×(Int×Unit))))×(Fn×Unit))⊕ty10):=(fun r0=>(bif(decide (r0.1.2.2.2.1<(r0.1.1.length:Int)))then(grd (okB ((0<=r0.1.2.2.2.1)/\(r0.1.2.2.2.1<(r0.1.1.length:Int)))) (bif(!(Sp.within r0.2.1 (r0.1.1.getD r0.1.2.2.2.1.toNat 0)))then(some (Sum.inr (Sum.inr ((false,()),()))))else(grd (okB ((0<=r0.1.2.2.2.1)/\(r0.1.2.2.2.1<(r0.1.1.length:Int)))) (grd (okB ((0<=(r0.1.1.getD r0.1.2.2.2.1.toNat 0))/\((r0.1.1.getD r0.1.2.2.2.1.toNat 0)<(r0.1.2.1.length:Int)))) (bif(!(r0.1.2.1.getD (r0.1.1.getD r0.1.2.2.2.1.toNat 0).toNat false))then(some (Sum.inr (Sum.inr ((false,()),()))))else(grd (okB (((-9223372036854775808)<=(r0.1.2.2.2.1+1))/\((r0.1.2.2.2.1+1)<=9223372036854775807))) (some (Sum.inl ((r0.1.1,(r0.1.2.1,((),((r0.1.2.2.2.1+1),())))),(r0.2.1,()))))))))))else(some (Sum.inr (Sum.inl ((),()))))))
def go48(x0:Fn)(x1:(List Int))(x2:(List Bool)):(Option (Bool×Unit)):=(qaj (qap (go48_l1) ((x1,(x2,((),(0,())))),(x0,()))) (fun z0=>(qgu (fun z1=>(some (true,()))) (fun z1=>(some (z1.1.1,()))) z0)))
theorem run48(x0:Fn)(x1:(List Int))(x2:(List Bool)):qdd (P:=Try.prog) [c47] Try.f48 ann48 [(0,(.st 6)),(1,(.fz (.int .i64))),(2,(.fz .bool))] [] .b [] (x0,(x1,(x2,()))) ()=go48 x0 x1 x2:=by kernel_rfl
def ann76:Ann:=(.seq .o (.seq .o (.join ⟨[(5,(.full 0))],[(.lst 3 (.int .i64))]⟩ (.seq .o (.block (.loop sh28 [((.exit 0),⟨[(5,(.full 0))],[(.lst 3 (.int .i64))]⟩)] (.join sh28 (.seq .o (.cond .o .o)) (.join sh28 (.block (.seq .o .o)) .o))))) (.seq .o .o))))
def go76_l1:((Int×ty13)×((List Int)×Unit))->Option (((Int×ty13)×((List Int)×Unit))⊕((Unit×Unit)×((List Int)×Unit))):=(fun r0=>(bif(decide (r0.1.2.2.2.1<(Sp.width r0.1.1)))then(grd (okB ((((r0.2.1.length+1)*8)<=140737488355328)/\((r0.2.1.length+1)<=281474976710656))) (grd (okB (((-9223372036854775808)<=(r0.1.2.2.2.1+1))/\((r0.1.2.2.2.1+1)<=9223372036854775807))) (some (Sum.inl ((r0.1.1,((Go.IntKind.wrap Go.IntKind.u64 (Int.tdiv r0.1.2.1 2)),((),((r0.1.2.2.2.1+1),())))),((r0.2.1++((Go.IntKind.wrap Go.IntKind.i64 (Int.tmod r0.1.2.1 2))::([]:List Int))),()))))))else(some (Sum.inr (((),()),(r0.2.1,()))))))
def go76(x0:Int)(x1:Int):(Option ((List Int)×Unit)):=(qaj (qap (go76_l1) ((x0,(x1,((),(0,())))),(([]:List Int),()))) (fun z0=>(some (z0.2.1,()))))
theorem run76(x0:Int)(x1:Int):qdd (P:=Try.prog) [c78] Try.f76 ann76 [(0,(.i .i64)),(1,(.i .u64))] [] (.fz (.int .i64)) [] (x0,(x1,())) ()=go76 x0 x1:=by kernel_rfl
def ann44:Ann:=(.seq .o (.join ⟨[(0,.s)],[]⟩ (.seq .o (.block (.loop sh29 [((.exit 0),⟨[(0,.s)],[]⟩),(.ret,sh22)] (.join sh29 (.seq .o (.cond .o .o)) (.join sh29 (.block (.seq .o (.cond (.seq .o .o) .o))) .o))))) (.seq .o .o)))
def go44_j1:((ByteArray×(Int×Unit))×Unit)->Option ty15:=(fun z0=>(grd (okB (((-9223372036854775808)<=(z0.1.2.1+1))/\((z0.1.2.1+1)<=9223372036854775807))) (some (Sum.inl ((z0.1.1,((z0.1.2.1+1),())),())))))
def go44_l1:((ByteArray×(Int×Unit))×Unit)->Option ty15:=(fun r0=>(bif(decide (r0.1.2.1<(((ByteArray.size r0.1.1):Nat):Int)))then(jpO (go44_j1) (fun j0=>(grd (okB ((0<=r0.1.2.1)/\(r0.1.2.1<(((ByteArray.size r0.1.1):Nat):Int)))) (bif(!(Sp.letter (qe8 r0.1.1 r0.1.2.1.toNat)))then(bif(decide (r0.1.2.1=0))then(some (Sum.inr (Sum.inr ((false,()),()))))else(grd (okB ((0<=r0.1.2.1)/\(r0.1.2.1<(((ByteArray.size r0.1.1):Nat):Int)))) (bif(decide ((Sp.digit (qe8 r0.1.1 r0.1.2.1.toNat) 10)<0))then(some (Sum.inr (Sum.inr ((false,()),()))))else(j0 ((r0.1.1,(r0.1.2.1,())),())))))else(j0 ((r0.1.1,(r0.1.2.1,())),()))))))else(some (Sum.inr (Sum.inl ((r0.1.1,()),()))))))
def go44(x0:ByteArray):(Option (Bool×Unit)):=(qaj (qap (go44_l1) ((x0,(0,())),())) (fun z0=>(qgu (fun z1=>(bif(decide (1<=(((ByteArray.size z1.1.1):Nat):Int)))then(some ((decide ((((ByteArray.size z1.1.1):Nat):Int)<=64)),()))else(some (false,())))) (fun z1=>(some (z1.1.1,()))) z0)))
theorem run44(x0:ByteArray):qdd (P:=Try.prog) [c90,c91] Try.f44 ann44 [(0,.s)] [] .b [] (x0,()) ()=go44 x0:=by kernel_rfl
def Sp.arity(op:Int):Int:=
 if op=1 then 0 else if Sp.qdz op||decide (op=25)||decide (op=28)then 2 else if op=21\/op=26 then 3 else if op=22\/op=23\/op=24\/op=27 then 1 else -1
theorem ok13(op:Int):go13 op=some (Sp.arity op,()):=by
 unfold go13 go13_j1 go13_j2 go13_j3 Sp.arity;simp only[qcp,qb8];cases Sp.qdz op<;>simp only[cond_true,cond_false]<;>repeat' split
 all_goals simp_all
theorem ok14(op:Int):go14 op=some (Sp.arity op,()):=ok13 op
def c13:Ctr Try.prog:=qbl 13 Try.f13 Try.func13 [c42] ann13 [(0,(.i .i64))] [] (.i .i64) [] (fun x _=>some (Sp.arity x.1,())) (fun x _ r h=>FE (run13 x.1) (ok13 x.1) h)
def c14:Ctr Try.prog:=qbl 14 Try.f14 Try.func14 [c43] ann14 [(0,(.i .i64))] [] (.i .i64) [] (fun x _=>some (Sp.arity x.1,())) (fun x _ r h=>FE (run14 x.1) (ok14 x.1) h)
def Sp.qaa(l:List Int)(most:Int):Bool:=l.all Sp.right&&decide ((l.length:Int)<=most)
theorem ok46(l:List Int)(most:Int)(hl:l.length<=LEN):go46 l most=some (Sp.qaa l most,()):=by
 rw[qcl]at hl;unfold go46 go46_l1;refine qa5 (qa6 (l:=l) (st:=fun i=>((l,most,(i:Int),()),())) rfl 0 Sp.right (A:=.inl ((l,most,()),())) (B:=.inr ((false,()),())) (fun i hi hp=>?_) (fun i hi hp=>?_) (fun _=>?_)) ?_
 ·simp(maxSteps:=1000000) (disch:=((try dsimp only);omega)) only[↓gsA,gsB]
  rw[hp];rfl
 ·simp(maxSteps:=1000000) (disch:=((try dsimp only);omega)) only[↓gsA,gsB]
  rw[hp];rfl
 ·simp(maxSteps:=1000000) (disch:=((try dsimp only);omega)) only[↓gsA,gsB]
 ·unfold Sp.qaa;cases l.all Sp.right<;>simp
def c46:Ctr Try.prog:=qbl 46 Try.f46 Try.func46 [c92] ann46 [(0,(.fz (.int .i64))),(1,(.i .i64))] [] .b [] (fun x _=>grd (okB (x.1.length<=LEN)) (some (Sp.qaa x.1 x.2.1,()))) (fun x _ r h=>FO (run46 x.1 x.2.1) (ok46 x.1 x.2.1) h)
theorem within_iff{f:Fn}{v:Int}:Sp.within f v=true↔0<=v/\v<f.qaa.length:=by simp[Sp.within]
def Sp.used(f:Fn)(l:List Int)(known:List Bool):Bool:=l.all fun v=>Sp.within f v&&known.getD v.toNat false
theorem ok48(f:Fn)(l:List Int)(known:List Bool)(h:l.length<=LEN/\known.length=f.qaa.length):go48 f l known=some (Sp.used f l known,()):=by
 obtain⟨hl,hk⟩:=h;rw[qcl]at hl;unfold go48 go48_l1;refine qa5 (qa6 (l:=l) (st:=fun i=>((l,known,(),(i:Int),()),f,())) rfl 0 (fun v=>Sp.within f v&&known.getD v.toNat false) (A:=.inl ((),())) (B:=.inr ((false,()),())) (fun i hi hp=>?_) (fun i hi hp=>?_) (fun _=>?_)) ?_
 ·simp only[zi4]at hp;obtain⟨h1,h2⟩:=hp;obtain⟨h3,h4⟩:=within_iff.1 h1;simp(maxSteps:=1000000) (disch:=((try dsimp only);omega)) only[↓gsA,gsB]
  rw[h1,h2];rfl
 ·simp only[Bool.and_eq_false_iff]at hp;simp(maxSteps:=1000000) (disch:=((try dsimp only);omega)) only[↓gsA,gsB]
  cases h1:Sp.within f (l.getD i 0)with
  |false=>rfl
  |true=>
   obtain⟨h3,h4⟩:=within_iff.1 h1;rw[h1]at hp;simp(maxSteps:=1000000) (disch:=((try dsimp only);omega)) only[↓gsA,gsB]
   rcases hp with hp|hp
   ·cases hp
   ·rw[hp];rfl
 ·simp(maxSteps:=1000000) (disch:=((try dsimp only);omega)) only[↓gsA,gsB]
 ·unfold Sp.used;cases(l.all fun v=>Sp.within f v&&known.getD v.toNat false)<;>simp
def c48:Ctr Try.prog:=qbl 48 Try.f48 Try.func48 [c47] ann48 [(0,(.st 6)),(1,(.fz (.int .i64))),(2,(.fz .bool))] [] .b [] (fun x _=>grd (okB (x.2.1.length<=LEN/\x.2.2.1.length=x.1.qaa.length)) (some (Sp.used x.1 x.2.1 x.2.2.1,()))) (fun x _ r h=>FO (run48 x.1 x.2.1 x.2.2.1) (ok48 x.1 x.2.1 x.2.2.1) h)
def Sp.half(x:Int):Nat->Int
 |0=>x
 |k+1=>IntKind.u64.wrap ((Sp.half x k).tdiv 2)
def Sp.qhq(x:Int)(n:Nat):List Int:=(List.range n).map fun k=>(Sp.half x k).tmod 2
theorem qyf(x:Int)(n:Nat):Sp.qhq x (n+1)=Sp.qhq x n++[(Sp.half x n).tmod 2]:=by simp[Sp.qhq,List.range_succ]
theorem qnq(x:Int)(n:Nat):(Sp.qhq x n).length=n:=by simp[Sp.qhq]
theorem zgg(a:Int) : -2<a.tmod 2/\a.tmod 2<2:=⟨Int.lt_tmod_of_pos a (by decide),Int.tmod_lt_of_pos a (by decide)⟩
theorem ok76(w x:Int):go76 w x=some (Sp.qhq x (Sp.width w).toNat,()):=by
 have hw:=qiy w;unfold go76 go76_l1;refine qa5 (qcj (st:=fun i=>((w,Sp.half x i,(),(i:Int),()),Sp.qhq x i,())) rfl (Sp.width w).toNat (X0:=(((),()),(Sp.qhq x (Sp.width w).toNat,()))) (fun i hi=>?_) ?_) ?_
 ·have hl:=qnq x i;have h2:=zgg (Sp.half x i);simp(maxSteps:=1000000) (disch:=((try dsimp only);omega)) only[↓gsA,gsB]
  rw[qdv (by omega) (by omega),qyf];rfl
 ·simp(maxSteps:=1000000) (disch:=((try dsimp only);omega)) only[↓gsA,gsB]
 ·rfl
def c76:Ctr Try.prog:=qbl 76 Try.f76 Try.func76 [c78] ann76 [(0,(.i .i64)),(1,(.i .u64))] [] (.fz (.int .i64)) [] (fun x _=>some (Sp.qhq x.2.1 (Sp.width x.1).toNat,())) (fun x _ r h=>FE (run76 x.1 x.2.1) (ok76 x.1 x.2.1) h)
def Sp.qhi(s:ByteArray)(i:Nat):Bool:=Sp.letter (qe8 s i)||(!decide (i=0)&&!decide (Sp.digit (qe8 s i) 10<0))
def Sp.ident(s:ByteArray):Bool:=(List.range s.size).all (Sp.qhi s)&&(decide (1<=(s.size:Int))&&decide ((s.size:Int)<=64))
theorem ok44(s:ByteArray)(hs:s.size<=9223372036854775807):go44 s=some (Sp.ident s,()):=by
 unfold go44 go44_l1 go44_j1;refine qa5 (qa6 (l:=List.range s.size) (st:=fun i=>((s,(i:Int),()),())) rfl 0 (Sp.qhi s) (A:=.inl ((s,()),())) (B:=.inr ((false,()),())) (fun i hi hp=>?_) (fun i hi hp=>?_) (fun _=>?_)) ?_
 ·rw[zjb]at hi;have e:(List.range s.size).getD i 0=i:=by simp[zi5,hi]
  rw[e]at hp;unfold Sp.qhi at hp;simp(maxSteps:=1000000) (disch:=((try dsimp only);omega)) only[↓gsA,gsB]
  cases h1:Sp.letter (qe8 s i)with
  |true=>rfl
  |false=>
   rw[h1]at hp;simp only[Bool.false_or,zi4,zjo,decide_eq_false_iff_not]at hp;simp(maxSteps:=1000000) (disch:=((try dsimp only);omega)) only[↓gsA,gsB]
 ·rw[zjb]at hi;have e:(List.range s.size).getD i 0=i:=by simp[zi5,hi]
  rw[e]at hp;unfold Sp.qhi at hp;simp only[Bool.or_eq_false_iff]at hp;simp(maxSteps:=1000000) (disch:=((try dsimp only);omega)) only[↓gsA,gsB]
  rw[hp.1];simp(maxSteps:=1000000) (disch:=((try dsimp only);omega)) only[↓gsA,gsB]
  by_cases h2:i=0
  ·subst h2;rfl
  ·have h3:Sp.digit (qe8 s i) 10<0:=by simpa[h2]using hp.2
   simp(maxSteps:=1000000) (disch:=((try dsimp only);omega)) only[↓gsA,gsB]
 ·rw[zjb];simp(maxSteps:=1000000) (disch:=((try dsimp only);omega)) only[↓gsA,gsB]
 ·unfold Sp.ident;cases(List.range s.size).all (Sp.qhi s)
  ·simp
  ·simp(maxSteps:=1000000) (disch:=((try dsimp only);omega)) only[↓gsA,gsB]
   by_cases h:(1:Int)<=s.size<;>simp[h]
def c44:Ctr Try.prog:=qbl 44 Try.f44 Try.func44 [c90,c91] ann44 [(0,.s)] [] .b [] (fun x _=>grd (okB (x.1.size<=9223372036854775807)) (some (Sp.ident x.1,()))) (fun x _ r h=>FO (run44 x.1) (ok44 x.1) h)
end
end Go.Abs
namespace Go.Abs
open Go Go.Proofs
noncomputable section
def ann12:Ann:=(.seq .o (.seq .o .o))
def go12:(Option (Bool×Unit)):=(bif(decide ((Sp.arity 21)=3))then(some ((Sp.qrx 2),()))else(some (false,())))
theorem run12:qdd (P:=Try.prog) [c13,c15] Try.f12 ann12 [] [] .b [] () ()=go12:=by kernel_rfl
def ann49:Ann:=(.seq .o (.seq .o .o))
def go49(x0:Int):(Option (Bool×Unit)):=(bif(decide (0<=(Sp.arity x0)))then(bif(!(decide (x0=26)))then(some ((!(decide (x0=28))),()))else(some (false,())))else(some (false,())))
theorem run49(x0:Int):qdd (P:=Try.prog) [c14] Try.f49 ann49 [(0,(.i .i64))] [] .b [] (x0,()) ()=go49 x0:=by kernel_rfl
def ann93:Ann:=(.seq .o (.seq .o .o))
def go93(x0:Int)(x1:Int):(Option (Int×Unit)):=(qaj (grd (okB ((Sp.qhq x1 (Sp.width x0).toNat).length<=LEN)) (some ((Sp.wd (Sp.qhq x1 (Sp.width x0).toNat) (Sp.qhq x1 (Sp.width x0).toNat).length),()))) (fun r0=>(some (r0.1,()))))
theorem run93(x0:Int)(x1:Int):qdd (P:=Try.prog) [c76,c79] Try.f93 ann93 [(0,(.i .i64)),(1,(.i .u64))] [] (.i .u64) [] (x0,(x1,())) ()=go93 x0 x1:=by kernel_rfl
def ann95:Ann:=(.seq .o (.join ⟨[(3,(.ptr 0 0)),(4,(.ptr 1 0))],sh57⟩ (.seq .o (.cond (.seq .o .o) .o)) (.seq .o (.join ⟨[(3,(.ptr 0 0)),(4,(.ptr 1 0)),(7,(.fz (.int .i64)))],sh57⟩ (.seq .o (.cond (.seq .o .o) .o)) (.join ⟨[],[]⟩ (.seq .o (.block (.loop sh30 [((.exit 0),⟨[],[]⟩),(.ret,⟨[(6,.b)],[]⟩)] (.join sh30 (.seq .o (.cond .o .o)) (.join sh30 (.block (.seq .o (.cond (.seq .o .o) .o))) .o))))) (.seq .o .o))))))
def go95_l1:((Unit×(Unit×ty17))×(Fn×(Edge×Unit)))->Option (((Unit×(Unit×ty17))×(Fn×(Edge×Unit)))⊕ty10):=(fun r1=>(bif(decide (r1.1.2.2.2.1<(r1.1.2.2.1.length:Int)))then(grd (okB ((0<=r1.1.2.2.2.1)/\(r1.1.2.2.2.1<(r1.1.2.2.1.length:Int)))) (bif(!(Sp.within r1.2.1 (r1.1.2.2.1.getD r1.1.2.2.2.1.toNat 0)))then(some (Sum.inr (Sum.inr ((false,()),()))))else(grd (okB ((0<=r1.1.2.2.2.1)/\(r1.1.2.2.2.1<(r1.1.2.2.1.length:Int)))) (grd (okB ((0<=(r1.1.2.2.1.getD r1.1.2.2.2.1.toNat 0))/\((r1.1.2.2.1.getD r1.1.2.2.2.1.toNat 0)<(r1.2.1.qaa.length:Int)))) (grd (okB ((0<=r1.1.2.2.2.1)/\(r1.1.2.2.2.1<(r1.2.2.1.args.length:Int)))) (grd (okB ((0<=(r1.2.2.1.args.getD r1.1.2.2.2.1.toNat 0))/\((r1.2.2.1.args.getD r1.1.2.2.2.1.toNat 0)<(r1.2.1.qaa.length:Int)))) (bif(!(decide ((r1.2.1.qaa.getD (r1.1.2.2.1.getD r1.1.2.2.2.1.toNat 0).toNat 0)=(r1.2.1.qaa.getD (r1.2.2.1.args.getD r1.1.2.2.2.1.toNat 0).toNat 0))))then(some (Sum.inr (Sum.inr ((false,()),()))))else(grd (okB (((-9223372036854775808)<=(r1.1.2.2.2.1+1))/\((r1.1.2.2.2.1+1)<=9223372036854775807))) (some (Sum.inl (((),((),(r1.1.2.2.1,((r1.1.2.2.2.1+1),())))),(r1.2.1,(r1.2.2.1,())))))))))))))else(some (Sum.inr (Sum.inl ((),()))))))
def go95(x0:Fn)(x1:Edge)(x2:(List Bool)):(Option (Bool×Unit)):=(bif(decide (x1.block<1))then(some (false,()))else(bif(decide ((x0.blocks.length:Int)<=x1.block))then(some (false,()))else(qaj (grd (okB ((x1.args.length<=LEN)/\(x2.length=x0.qaa.length))) (some ((Sp.used x0 x1.args x2),()))) (fun r0=>(bif(!r0.1)then(some (false,()))else(grd (okB ((0<=x1.block)/\(x1.block<(x0.blocks.length:Int)))) (bif(!(decide ((((x0.blocks.getD x1.block.toNat Block.z).params.length:Nat):Int)=(x1.args.length:Int))))then(some (false,()))else(qaj (qap (go95_l1) (((),((),((x0.blocks.getD x1.block.toNat Block.z).params,(0,())))),(x0,(x1,())))) (fun z0=>(qgu (fun z1=>(some (true,()))) (fun z1=>(some (z1.1.1,()))) z0))))))))))
theorem run95(x0:Fn)(x1:Edge)(x2:(List Bool)):qdd (P:=Try.prog) [c47,c48] Try.f95 ann95 [(0,(.st 6)),(1,(.st 1)),(2,(.fz .bool))] [] .b [] (x0,(x1,(x2,()))) ()=go95 x0 x1 x2:=by kernel_rfl
theorem ok12:go12=some (true,()):=by unfold go12;simp[Sp.arity,Sp.qrx,Sp.qdz]
def c12:Ctr Try.prog:=qbl 12 Try.f12 Try.func12 [c13,c15] ann12 [] [] .b [] (fun x _=>some (true,())) (fun x _ r h=>FE run12 ok12 h)
def Sp.result(op:Int):Bool:=decide (0<=Sp.arity op)&&!decide (op=26)&&!decide (op=28)
theorem ok49(op:Int):go49 op=some (Sp.result op,()):=by
 unfold go49 Sp.result;by_cases h:0<=Sp.arity op<;>by_cases h2:op=26<;>simp[h,h2]
def c49:Ctr Try.prog:=qbl 49 Try.f49 Try.func49 [c14] ann49 [(0,(.i .i64))] [] .b [] (fun x _=>some (Sp.result x.1,())) (fun x _ r h=>FE (run49 x.1) (ok49 x.1) h)
def Sp.fit(w x:Int):Int:=Sp.wd (Sp.qhq x (Sp.width w).toNat) (Sp.qhq x (Sp.width w).toNat).length
theorem ok93(w x:Int):go93 w x=some (Sp.fit w x,()):=by
 have hw:=qiy w;have hlen:(Sp.qhq x (Sp.width w).toNat).length<=LEN:=by rw[qnq];simp only[LEN];omega
 unfold go93;rw[qak hlen];rfl
def c93:Ctr Try.prog:=qbl 93 Try.f93 Try.func93 [c76,c79] ann93 [(0,(.i .i64)),(1,(.i .u64))] [] (.i .u64) [] (fun x _=>some (Sp.fit x.1 x.2.1,())) (fun x _ r h=>FE (run93 x.1 x.2.1) (ok93 x.1 x.2.1) h)
def Sp.qqz(f:Fn)(ps qs:List Int)(i:Nat):Bool:=Sp.within f (ps.getD i 0)&&decide (f.qaa.getD (ps.getD i 0).toNat 0=f.qaa.getD (qs.getD i 0).toNat 0)
def Sp.qc0(f:Fn)(e:Edge)(known:List Bool):Bool:=
 (!decide (e.block<1)&&!decide ((f.blocks.length:Int)<=e.block)&&Sp.used f e.args known) &&
 (decide (((f.blk e.block.toNat).params.length:Int)=e.args.length)&&(List.range (f.blk e.block.toNat).params.length).all (Sp.qqz f (f.blk e.block.toNat).params e.args))
theorem qf9{f:Fn}{l:List Int}{known:List Bool}(h:Sp.used f l known=true){i:Nat}(hi:i<l.length):0<=l.getD i 0/\l.getD i 0<f.qaa.length/\known.getD (l.getD i 0).toNat false=true:=by
 simp only[Sp.used,zjm]at h;have:=h (l.getD i 0) (by simp[zi5,hi]);simp only[zi4]at this;exact⟨(within_iff.1 this.1).1,(within_iff.1 this.1).2,this.2⟩
theorem qaw{n i:Nat}(h:i<n):(List.range n).getD i 0=i:=by simp[zi5,h]
theorem ok95(f:Fn)(e:Edge)(known:List Bool)(h:f.ok/\e.ok/\known.length=f.qaa.length):go95 f e known=some (Sp.qc0 f e known,()):=by
 obtain⟨hf,he,hk⟩:=h;have hea:e.args.length<=LEN:=he.2.len;unfold go95 go95_l1;rw[qak ⟨hea,hk⟩];by_cases h1:e.block<1
 ·simp[Sp.qc0,h1]
 by_cases h2:(f.blocks.length:Int)<=e.block
 ·simp[Sp.qc0,h1,h2]
 simp(maxSteps:=1000000) (disch:=((try dsimp only);omega)) only[↓gsA,gsB]
 cases h3:Sp.used f e.args known with
 |false=>simp[Sp.qc0,h3]
 |true=>
  simp(maxSteps:=1000000) (disch:=((try dsimp only);omega)) only[↓gsA,gsB]
  by_cases h4:(((f.blocks.getD e.block.toNat Block.z).params.length:Nat):Int)=e.args.length
  rotate_left
  ·rw[if_neg h4];simp only[Sp.qc0];rw[show decide (((f.blk e.block.toNat).params.length:Int)=e.args.length)=false from decide_eq_false h4];simp
  rw[if_pos h4];have hp:(f.blocks.getD e.block.toNat Block.z).params.length<=LEN:=(Fn.qvy hf (by omega)).1.len;rw[qcl]at hp;have hEnd:Sp.qc0 f e known=(List.range (f.blk e.block.toNat).params.length).all (Sp.qqz f (f.blk e.block.toNat).params e.args):=by
   simp only[Sp.qc0,h3];rw[decide_eq_false h1,decide_eq_false h2,decide_eq_true h4];rfl
  rw[hEnd];show _=some ((List.range (f.blocks.getD e.block.toNat Block.z).params.length).all (Sp.qqz f (f.blocks.getD e.block.toNat Block.z).params e.args),());generalize (f.blocks.getD e.block.toNat Block.z).params=ps at *;refine qa5 (qa6 (l:=List.range ps.length) (st:=fun i=>(((),(),ps,(i:Int),()),f,e,())) rfl 0 (Sp.qqz f ps e.args) (A:=.inl ((),())) (B:=.inr ((false,()),())) (fun i hi hq=>?_) (fun i hi hq=>?_) (fun _=>?_)) ?_
  ·rw[zjb]at hi;rw[qaw hi]at hq;simp only[Sp.qqz,zi4,decide_eq_true_eq]at hq;obtain⟨q1,q2⟩:=hq;obtain⟨q3,q4⟩:=within_iff.1 q1;obtain⟨g3,g4,-⟩:=qf9 h3 (i:=i) (by omega);simp(maxSteps:=1000000) (disch:=((try dsimp only);omega)) only[↓gsA,gsB]
   rw[q1];simp(maxSteps:=1000000) (disch:=((try dsimp only);omega)) only[↓gsA,gsB]
  ·rw[zjb]at hi;rw[qaw hi]at hq;simp only[Sp.qqz,Bool.and_eq_false_iff,decide_eq_false_iff_not]at hq;obtain⟨g3,g4,-⟩:=qf9 h3 (i:=i) (by omega);simp(maxSteps:=1000000) (disch:=((try dsimp only);omega)) only[↓gsA,gsB]
   cases q1:Sp.within f (ps.getD i 0)with
   |false=>rfl
   |true=>
    obtain⟨q3,q4⟩:=within_iff.1 q1;rw[q1]at hq;have hq:=hq.resolve_left (by simp);simp(maxSteps:=1000000) (disch:=((try dsimp only);omega)) only[↓gsA,gsB]
  ·rw[zjb];simp(maxSteps:=1000000) (disch:=((try dsimp only);omega)) only[↓gsA,gsB]
  ·cases(List.range ps.length).all (Sp.qqz f ps e.args)<;>rfl
def c95:Ctr Try.prog:=qbl 95 Try.f95 Try.func95 [c47,c48] ann95 [(0,(.st 6)),(1,(.st 1)),(2,(.fz .bool))] [] .b [] (fun x _=>grd (okB (x.1.ok/\x.2.1.ok/\x.2.2.1.length=x.1.qaa.length)) (some (Sp.qc0 x.1 x.2.1 x.2.2.1,()))) (fun x _ r h=>FO (run95 x.1 x.2.1 x.2.2.1) (ok95 x.1 x.2.1 x.2.2.1) h)
end
end Go.Abs
namespace Go.Abs
open Go Go.Proofs
noncomputable section
def ann45:Ann:=(.seq .o (.seq .o (.join sh31 (.seq .o (.block (.loop sh32 [((.exit 0),sh31),(.ret,sh22)] (.join sh32 (.seq .o (.cond .o .o)) (.join sh32 (.block (.seq .o (.seq .o (.join ⟨sh66,sh67⟩ (.seq .o (.cond (.seq .o .o) .o)) (.seq .o (.block (.join ⟨[(1,(.ptr 0 0)),(3,(.full 1)),(4,(.i .i64)),(5,(.ptr 2 0)),(41,(.i .i64)),(42,.b)],sh67⟩ (.seq .o (.cond .o .o)) (.cond (.seq .o (.cond (.seq .o .o) .o)) (.join ⟨[(1,(.ptr 0 0)),(3,(.full 1)),(4,(.i .i64)),(5,(.ptr 2 0)),(58,.b)],sh67⟩ (.seq .o (.cond .o .o)) (.cond (.seq .o (.cond (.seq .o .o) .o)) (.seq .o .o))))))))))) .o))))) (.join sh31 (.seq .o (.block (.loop sh33 [((.exit 3),sh31),(.ret,sh22)] (.join sh33 (.seq .o (.cond .o .o)) (.join sh33 (.block (.seq .o (.seq .o (.cond (.seq .o .o) .o)))) .o))))) (.join sh34 (.seq .o (.block (.loop sh35 [((.exit 5),sh34),(.ret,sh22)] (.join sh35 (.seq .o (.cond .o .o)) (.join sh35 (.block (.join sh35 (.seq .o (.cond (.seq .o .o) .o)) (.seq .o (.block (.loop sh36 [((.exit 7),sh35),(.ret,sh22)] (.join sh36 (.seq .o (.cond .o .o)) (.join sh36 (.block (.seq .o (.cond (.seq .o .o) .o))) .o))))))) .o))))) (.seq .o .o))))))
def go45_l4:(ty7×(Fn×((List ByteArray)×Unit)))->Option ((ty7×(Fn×((List ByteArray)×Unit)))⊕(ty4⊕((Bool×Unit)×Unit))):=(fun r2=>(bif(decide (r2.1.2.2.2.1<r2.1.2.2.1))then(grd (okB ((0<=r2.1.2.2.2.1)/\(r2.1.2.2.2.1<(r2.2.2.1.length:Int)))) (grd (Nat.blt r2.1.2.2.2.1.toNat r2.2.2.1.length) (grd (okB ((0<=r2.1.2.2.1)/\(r2.1.2.2.1<(r2.2.2.1.length:Int)))) (grd (Nat.blt r2.1.2.2.1.toNat r2.2.2.1.length) (bif((ByteArray.toList (r2.2.2.1.getD r2.1.2.2.2.1.toNat ByteArray.empty))==(ByteArray.toList (r2.2.2.1.getD r2.1.2.2.1.toNat ByteArray.empty)))then(some (Sum.inr (Sum.inr ((false,()),()))))else(grd (okB (((-9223372036854775808)<=(r2.1.2.2.2.1+1))/\((r2.1.2.2.2.1+1)<=9223372036854775807))) (some (Sum.inl (((),((),(r2.1.2.2.1,((r2.1.2.2.2.1+1),())))),(r2.2.1,(r2.2.2.1,())))))))))))else(some (Sum.inr (Sum.inl (((),((),(r2.1.2.2.1,()))),(r2.2.1,(r2.2.2.1,()))))))))
def go45_l3:ty4->Option (ty4⊕(((Unit×Unit)×(Fn×Unit))⊕((Bool×Unit)×Unit))):=(fun r0=>(bif(decide (r0.1.2.2.1<(r0.2.2.1.length:Int)))then(grd (okB ((0<=r0.1.2.2.1)/\(r0.1.2.2.1<(r0.2.2.1.length:Int)))) (grd (Nat.blt r0.1.2.2.1.toNat r0.2.2.1.length) (qaj (grd (okB ((ByteArray.size (r0.2.2.1.getD r0.1.2.2.1.toNat ByteArray.empty))<=9223372036854775807)) (some ((Sp.ident (r0.2.2.1.getD r0.1.2.2.1.toNat ByteArray.empty)),()))) (fun r1=>(bif(!r1.1)then(some (Sum.inr (Sum.inr ((false,()),()))))else(qaj (qap (go45_l4) (((),((),(r0.1.2.2.1,(0,())))),(r0.2.1,(r0.2.2.1,())))) (fun z4=>(qgu (fun z5=>(grd (okB (((-9223372036854775808)<=(z5.1.2.2.1+1))/\((z5.1.2.2.1+1)<=9223372036854775807))) (some (Sum.inl (((),((),((z5.1.2.2.1+1),()))),(z5.2.1,(z5.2.2.1,()))))))) (fun z5=>(some (Sum.inr (Sum.inr ((z5.1.1,()),()))))) z4))))))))else(some (Sum.inr (Sum.inl (((),()),(r0.2.1,())))))))
def go45_l2:ty4->Option ty2:=(fun r0=>(bif(decide (r0.1.2.2.1<(r0.2.1.streams.length:Int)))then(grd (okB ((0<=r0.1.2.2.1)/\(r0.1.2.2.1<(r0.2.1.streams.length:Int)))) (grd (okB ((((r0.2.2.1.length+1)*16)<=140737488355328)/\((r0.2.2.1.length+1)<=281474976710656))) (grd (okB ((0<=r0.1.2.2.1)/\(r0.1.2.2.1<(r0.2.1.streams.length:Int)))) (bif(!(Sp.right (r0.2.1.streams.getD r0.1.2.2.1.toNat qbd.z).width))then(some (Sum.inr (Sum.inr ((false,()),()))))else(grd (okB (((-9223372036854775808)<=(r0.1.2.2.1+1))/\((r0.1.2.2.1+1)<=9223372036854775807))) (some (Sum.inl (((),((),((r0.1.2.2.1+1),()))),(r0.2.1,((r0.2.2.1++((r0.2.1.streams.getD r0.1.2.2.1.toNat qbd.z).name::([]:List ByteArray))),()))))))))))else(some (Sum.inr (Sum.inl (((),((),())),(r0.2.1,(r0.2.2.1,()))))))))
def go45_j3(j0:(ty4->(Option ty2))):((Unit×(Unit×(Int×(Unit×(Bool×Unit)))))×(Fn×((List ByteArray)×(Arr×Unit))))->Option ty2:=(fun z1=>(bif z1.1.2.2.2.2.1 then(bif(decide (z1.2.2.2.1.factor<1))then(some (Sum.inr (Sum.inr ((false,()),()))))else(bif(decide ((if(64<z1.2.2.2.1.len)then 64 else z1.2.2.2.1.len)<z1.2.2.2.1.factor))then(some (Sum.inr (Sum.inr ((false,()),()))))else(j0 (((),((),(z1.1.2.2.1,()))),(z1.2.1,(z1.2.2.1,()))))))else(some (Sum.inr (Sum.inr ((false,()),()))))))
def go45_j2(j0:(ty4->(Option ty2))):((Unit×(Unit×(Int×(Unit×(Int×(Bool×Unit))))))×(Fn×((List ByteArray)×(Arr×Unit))))->Option ty2:=(fun z0=>(bif z0.1.2.2.2.2.2.1 then(bif(!(decide (z0.2.2.2.1.factor=0)))then(some (Sum.inr (Sum.inr ((false,()),()))))else(bif(decide (z0.2.2.2.1.kind=3))then(bif(decide (64<z0.2.2.2.1.len))then(some (Sum.inr (Sum.inr ((false,()),()))))else(j0 (((),((),(z0.1.2.2.1,()))),(z0.2.1,(z0.2.2.1,())))))else(j0 (((),((),(z0.1.2.2.1,()))),(z0.2.1,(z0.2.2.1,()))))))else(jpO (go45_j3 j0) (fun j1=>(bif(decide (z0.1.2.2.2.2.1=1))then(j1 (((),((),(z0.1.2.2.1,((),(true,()))))),(z0.2.1,(z0.2.2.1,(z0.2.2.2.1,())))))else(j1 (((),((),(z0.1.2.2.1,((),((decide (z0.1.2.2.2.2.1=2)),()))))),(z0.2.1,(z0.2.2.1,(z0.2.2.2.1,()))))))))))
def go45_j1:ty4->Option ty2:=(fun z0=>(grd (okB (((-9223372036854775808)<=(z0.1.2.2.1+1))/\((z0.1.2.2.1+1)<=9223372036854775807))) (some (Sum.inl (((),((),((z0.1.2.2.1+1),()))),(z0.2.1,(z0.2.2.1,())))))))
def go45_l1:ty4->Option ty2:=(fun r0=>(bif(decide (r0.1.2.2.1<(r0.2.1.qag.length:Int)))then(jpO (go45_j1) (fun j0=>(grd (okB ((0<=r0.1.2.2.1)/\(r0.1.2.2.1<(r0.2.1.qag.length:Int)))) (grd (okB ((((r0.2.2.1.length+1)*16)<=140737488355328)/\((r0.2.2.1.length+1)<=281474976710656))) (bif(!(Sp.right (r0.2.1.qag.getD r0.1.2.2.1.toNat Arr.z).width))then(some (Sum.inr (Sum.inr ((false,()),()))))else(bif(decide ((r0.2.1.qag.getD r0.1.2.2.1.toNat Arr.z).len<1))then(some (Sum.inr (Sum.inr ((false,()),()))))else(bif(decide (4096<(r0.2.1.qag.getD r0.1.2.2.1.toNat Arr.z).len))then(some (Sum.inr (Sum.inr ((false,()),()))))else(jpO (go45_j2 j0) (fun j1=>(bif(decide ((r0.2.1.qag.getD r0.1.2.2.1.toNat Arr.z).kind=0))then(j1 (((),((),(r0.1.2.2.1,((),((r0.2.1.qag.getD r0.1.2.2.1.toNat Arr.z).kind,(true,())))))),(r0.2.1,((r0.2.2.1++((r0.2.1.qag.getD r0.1.2.2.1.toNat Arr.z).name::([]:List ByteArray))),((r0.2.1.qag.getD r0.1.2.2.1.toNat Arr.z),())))))else(j1 (((),((),(r0.1.2.2.1,((),((r0.2.1.qag.getD r0.1.2.2.1.toNat Arr.z).kind,((decide ((r0.2.1.qag.getD r0.1.2.2.1.toNat Arr.z).kind=3)),())))))),(r0.2.1,((r0.2.2.1++((r0.2.1.qag.getD r0.1.2.2.1.toNat Arr.z).name::([]:List ByteArray))),((r0.2.1.qag.getD r0.1.2.2.1.toNat Arr.z),())))))))))))))))else(some (Sum.inr (Sum.inl (((),((),())),(r0.2.1,(r0.2.2.1,()))))))))
def go45(x0:Fn):(Option (Bool×Unit)):=(qaj (qap (go45_l1) (((),((),(0,()))),(x0,(([]:List ByteArray),())))) (fun z0=>(qgu (fun z1=>(qaj (qap (go45_l2) (((),((),(0,()))),(z1.2.1,(z1.2.2.1,())))) (fun z2=>(qgu (fun z3=>(qaj (qap (go45_l3) (((),((),(0,()))),(z3.2.1,(z3.2.2.1,())))) (fun z4=>(qgu (fun z5=>(bif(decide ((z5.2.1.qag.length:Int)<=64))then(some ((decide ((z5.2.1.streams.length:Int)<=64)),()))else(some (false,())))) (fun z5=>(some (z5.1.1,()))) z4)))) (fun z3=>(some (z3.1.1,()))) z2)))) (fun z1=>(some (z1.1.1,()))) z0)))
theorem run45(x0:Fn):qdd (P:=Try.prog) [c44,c92] Try.f45 ann45 [(0,(.st 6))] [] .b [] (x0,()) ()=go45 x0:=by kernel_rfl
def Sp.qqg(a:Arr):Bool:=
 if a.kind=0\/a.kind=3 then decide (a.factor=0)&&!(decide (a.kind=3)&&decide (64<a.len))
 else if a.kind=1\/a.kind=2 then !decide (a.factor<1)&&!decide ((if 64<a.len then 64 else a.len)<a.factor)else false
def Sp.qta(a:Arr):Bool:=(Sp.right a.width&&!decide (a.len<1)&&!decide (4096<a.len))&&Sp.qqg a
def Fn.names(f:Fn):List ByteArray:=f.qag.map Arr.name++f.streams.map qbd.name
def nameAt(l:List ByteArray)(i:Nat):ByteArray:=l.getD i ByteArray.empty
def Sp.qib(l:List ByteArray)(i:Nat):Bool:=Sp.ident (nameAt l i)&&(List.range i).all fun k=>!((nameAt l k).toList==(nameAt l i).toList)
def Sp.qjc(f:Fn):Bool:=f.qag.all Sp.qta&&(f.streams.all (fun s=>Sp.right s.width)&&((List.range f.names.length).all (Sp.qib f.names)&&(decide ((f.qag.length:Int)<=64)&&decide ((f.streams.length:Int)<=64))))
abbrev qc8(f:Fn)(i:Nat):List ByteArray:=(f.qag.take i).map Arr.name
abbrev qc5(f:Fn)(i:Nat):List ByteArray:=f.qag.map Arr.name++(f.streams.take i).map qbd.name
theorem qs9{β:Type}(a:Arr)(A B:β):(bif Sp.right a.width then if a.len<1 then B else if 4096<a.len then B else if a.kind=0 then(if a.factor=0 then A else B)else if a.kind=3 then(if a.factor=0 then if 64<a.len then B else A else B)
   else if a.kind=1 then(if a.factor<1 then B else if(if 64<a.len then 64 else a.len)<a.factor then B else A)else if a.kind=2 then(if a.factor<1 then B else if(if 64<a.len then 64 else a.len)<a.factor then B else A)else B else B)=if Sp.qta a=true then A else B:=by
 unfold Sp.qta Sp.qqg;cases Sp.right a.width
 ·simp
 ·simp only[cond_true,zjy]
  grind
theorem qos{f:Fn}{i:Nat}(hi:i<f.names.length)(hnl:f.names.length<=281474976710656):qap go45_l4
  (((),(),(i:Int),0,()),f,f.names,())=some (if(List.range i).all (fun k=>!((f.names.getD k ByteArray.empty).toList==(f.names.getD i ByteArray.empty).toList))then .inl (((),(),(i:Int),()),f,f.names,())else .inr ((false,()),())):=by
 unfold go45_l4;refine qa6 (l:=List.range i) (st:=fun k=>(((),(),(i:Int),(k:Int),()),f,f.names,())) rfl 0 (fun k=>!((f.names.getD k ByteArray.empty).toList==(f.names.getD i ByteArray.empty).toList)) (fun k hk hp=>?_) (fun k hk hp=>?_) (fun _=>?_)
 ·rw[zjb]at hk;rw[qaw hk]at hp;simp(maxSteps:=1000000) (disch:=((try dsimp only);omega)) only[↓gsA,gsB]
  rw[zjo]at hp;rw[hp];simp(maxSteps:=1000000) (disch:=((try dsimp only);omega)) only[↓gsA,gsB]
 ·rw[zjb]at hk;rw[qaw hk]at hp;simp(maxSteps:=1000000) (disch:=((try dsimp only);omega)) only[↓gsA,gsB]
  rw[Bool.not_eq_false']at hp;rw[hp];simp(maxSteps:=1000000) (disch:=((try dsimp only);omega)) only[↓gsA,gsB]
 ·rw[zjb];simp(maxSteps:=1000000) (disch:=((try dsimp only);omega)) only[↓gsA,gsB]
theorem qu1(f:Fn)(hf:f.ok):qap go45_l1 (((),(),0,()),f,[],())=some (if f.qag.all Sp.qta then .inl (((),(),()),f,qc8 f f.qag.length,())else .inr ((false,()),())):=by
 have ha:f.qag.length*48<=140737488351232:=hf.2.2.1.1;unfold go45_l1 go45_j1 go45_j2 go45_j3;refine qa6 (l:=f.qag) (st:=fun i=>(((),(),(i:Int),()),f,qc8 f i,())) rfl Arr.z Sp.qta (fun i hi hp=>?_) (fun i hi hp=>?_) (fun _=>?_)
 ·have hlen:(qc8 f i).length=i:=by simp only[qc8,zje,List.length_take];omega
  have hnx:qc8 f (i+1)=qc8 f i++[(f.qag.getD i Arr.z).name]:=by
   simp only[qc8];rw[zld hi,zkw];simp[hi]
  simp(maxSteps:=1000000) (disch:=((try dsimp only);omega)) only[↓gsA,gsB]
  rw[hnx];exact(qs9 _ _ _).trans (if_pos hp)
 ·have hlen:(qc8 f i).length=i:=by simp only[qc8,zje,List.length_take];omega
  simp(maxSteps:=1000000) (disch:=((try dsimp only);omega)) only[↓gsA,gsB]
  exact(qs9 _ _ _).trans (if_neg (by rw[hp];simp))
 ·simp(maxSteps:=1000000) (disch:=((try dsimp only);omega)) only[↓gsA,gsB]
theorem qrf(f:Fn)(hf:f.ok):qap go45_l2 (((),(),0,()),f,qc5 f 0,())=some (if f.streams.all (fun s=>Sp.right s.width)then .inl (((),(),()),f,qc5 f f.streams.length,())else .inr ((false,()),())):=by
 have ha:f.qag.length*48<=140737488351232:=hf.2.2.1.1;have hs:f.streams.length*32<=140737488351232:=hf.2.2.2.1.1;unfold go45_l2;refine qa6 (l:=f.streams) (st:=fun i=>(((),(),(i:Int),()),f,qc5 f i,())) rfl qbd.z (fun s=>Sp.right s.width) (fun i hi hp=>?_) (fun i hi hp=>?_) (fun _=>?_)
 ·have hlen:(qc5 f i).length=f.qag.length+i:=by simp only[qc5,zjh,zje,List.length_take];omega
  have hnx:qc5 f (i+1)=qc5 f i++[(f.streams.getD i qbd.z).name]:=by
   simp only[qc5];rw[show f.streams.take (i+1)=f.streams.take i++[f.streams.getD i qbd.z]by rw[zld hi];simp[zi5,hi],zkw,zkr]
   rfl
  simp(maxSteps:=1000000) (disch:=((try dsimp only);omega)) only[↓gsA,gsB]
  rw[hp,hnx];simp(maxSteps:=1000000) (disch:=((try dsimp only);omega)) only[↓gsA,gsB]
 ·have hlen:(qc5 f i).length=f.qag.length+i:=by simp only[qc5,zjh,zje,List.length_take];omega
  simp(maxSteps:=1000000) (disch:=((try dsimp only);omega)) only[↓gsA,gsB]
  rw[hp];rfl
 ·simp(maxSteps:=1000000) (disch:=((try dsimp only);omega)) only[↓gsA,gsB]
theorem q5t{f:Fn}(hf:f.ok):f.names.length<=281474976710656/\∀i,i<f.names.length->(f.names.getD i ByteArray.empty).size<=9223372036854775807:=by
 have ha:f.qag.length*48<=140737488351232:=hf.2.2.1.1;have hs:f.streams.length*32<=140737488351232:=hf.2.2.2.1.1;refine⟨by simp only[Fn.names,zjh,zje];omega,fun i hi=>?_⟩
 have hm:f.names.getD i ByteArray.empty∈f.names:=by simp[zi5,hi]
 rcases zjp.1 (show f.names.getD i ByteArray.empty∈f.qag.map Arr.name++f.streams.map qbd.name from hm)with h|h
 all_goals obtain⟨x,hx,e⟩:=zjz.1 h
 ·rw[<- e];exact(hf.2.2.1.2 x hx).1
 ·rw[<- e];exact(hf.2.2.2.1.2 x hx).1
theorem qn9(f:Fn)(hf:f.ok):qap go45_l3 (((),(),0,()),f,f.names,())=some (if(List.range f.names.length).all (Sp.qib f.names)then .inl (((),()),f,())else .inr ((false,()),())):=by
 obtain⟨hnl,hstr⟩:=q5t hf;unfold go45_l3;refine qa6 (l:=List.range f.names.length) (st:=fun i=>(((),(),(i:Int),()),f,f.names,())) rfl 0 (Sp.qib f.names) (fun i hi hp=>?_) (fun i hi hp=>?_) (fun _=>?_)
 ·rw[zjb]at hi;rw[qaw hi]at hp;simp only[Sp.qib,nameAt,zi4]at hp;simp(maxSteps:=1000000) (disch:=((try dsimp only);omega)) only[↓gsA,gsB]
  rw[qak (hstr i hi),hp.1];simp(maxSteps:=1000000) (disch:=((try dsimp only);omega)) only[↓gsA,gsB]
  refine qa5 (qos hi hnl) ?_;rw[if_pos hp.2];simp(maxSteps:=1000000) (disch:=((try dsimp only);omega)) only[↓gsA,gsB]
 ·rw[zjb]at hi;rw[qaw hi]at hp;simp only[Sp.qib,nameAt,Bool.and_eq_false_iff]at hp;simp(maxSteps:=1000000) (disch:=((try dsimp only);omega)) only[↓gsA,gsB]
  rw[qak (hstr i hi)];cases hid:Sp.ident (f.names.getD i ByteArray.empty)with
  |false=>rfl
  |true=>
   rw[hid]at hp;have hp:=hp.resolve_left (by simp);simp(maxSteps:=1000000) (disch:=((try dsimp only);omega)) only[↓gsA,gsB]
   refine qa5 (qos hi hnl) ?_;rw[if_neg (by rw[hp];simp)]
   simp(maxSteps:=1000000) (disch:=((try dsimp only);omega)) only[↓gsA,gsB]
 ·rw[zjb];simp(maxSteps:=1000000) (disch:=((try dsimp only);omega)) only[↓gsA,gsB]
theorem ok45(f:Fn)(hf:f.ok):go45 f=some (Sp.qjc f,()):=by
 unfold go45;refine qa5 (qu1 f hf) ?_;cases hall:f.qag.all Sp.qta with
 |false=>simp[Sp.qjc,hall]
 |true=>
  rw[if_pos rfl];simp(maxSteps:=1000000) (disch:=((try dsimp only);omega)) only[↓gsA,gsB]
  rw[show qc8 f f.qag.length=qc5 f 0 by simp[qc8,qc5]];refine qa5 (qrf f hf) ?_;cases hall2:f.streams.all (fun s=>Sp.right s.width)with
  |false=>simp[Sp.qjc,hall2]
  |true=>
   rw[if_pos rfl];simp(maxSteps:=1000000) (disch:=((try dsimp only);omega)) only[↓gsA,gsB]
   rw[show qc5 f f.streams.length=f.names by simp[Fn.names,qc5]];refine qa5 (qn9 f hf) ?_;cases hall3:(List.range f.names.length).all (Sp.qib f.names)with
   |false=>simp[Sp.qjc,hall3]
   |true=>
    rw[if_pos rfl];simp(maxSteps:=1000000) (disch:=((try dsimp only);omega)) only[↓gsA,gsB]
    simp only[Sp.qjc,hall,hall2,hall3,zjy];by_cases h:(f.qag.length:Int)<=64<;>simp[h]
def c45:Ctr Try.prog:=qbl 45 Try.f45 Try.func45 [c44,c92] ann45 [(0,(.st 6))] [] .b [] (fun x _=>grd (okB x.1.ok) (some (Sp.qjc x.1,()))) (fun x _ r h=>FO (run45 x.1) (ok45 x.1) h)
end
end Go.Abs
namespace Go.Abs
open Go Go.Proofs
noncomputable section
def ann51:Ann:=(.seq .o (.seq .o (.join sh37 (.seq .o (.block (.seq .o (.cond .o (.seq .o (.cond .o (.seq .o (.cond (.join sh37 (.seq .o (.cond (.seq .o .o) .o)) (.seq .o (.block (.loop sh38 [((.exit 1),sh37),(.ret,⟨[(6,.b)],[]⟩)] (.join sh38 (.seq .o (.cond .o .o)) (.join sh38 (.block (.seq .o (.cond (.seq .o .o) .o))) .o)))))) (.seq .o .o))))))))) (.join sh39 (.seq .o (.cond (.seq .o .o) .o)) (.join sh39 (.seq .o (.cond (.seq .o (.cond (.seq .o .o) .o)) (.seq .o (.cond (.seq .o .o) .o)))) (.join ⟨[],[]⟩ (.seq .o (.block (.loop sh40 [((.exit 3),⟨[],[]⟩),(.ret,⟨[(6,.b)],[]⟩)] (.join sh40 (.seq .o (.cond .o .o)) (.join sh40 (.block (.seq .o (.cond (.seq .o .o) .o))) .o))))) (.seq .o .o)))))))
def go51_l2:(((List Bool)×ty7)×(Fn×(Term×Unit)))->Option ((((List Bool)×ty7)×(Fn×(Term×Unit)))⊕(ty8⊕((Bool×Unit)×Unit))):=(fun r1=>(bif(decide (r1.1.2.2.2.2.1<(r1.2.2.1.qax.length:Int)))then(grd (okB ((0<=r1.1.2.2.2.2.1)/\(r1.1.2.2.2.2.1<(r1.2.2.1.qax.length:Int)))) (grd (okB ((0<=(r1.2.2.1.qax.getD r1.1.2.2.2.2.1.toNat 0))/\((r1.2.2.1.qax.getD r1.1.2.2.2.2.1.toNat 0)<(r1.2.1.qaa.length:Int)))) (grd (okB ((0<=r1.1.2.2.2.2.1)/\(r1.1.2.2.2.2.1<(r1.2.1.qax.length:Int)))) (bif(!(decide ((r1.2.1.qaa.getD (r1.2.2.1.qax.getD r1.1.2.2.2.2.1.toNat 0).toNat 0)=(r1.2.1.qax.getD r1.1.2.2.2.2.1.toNat 0))))then(some (Sum.inr (Sum.inr ((false,()),()))))else(grd (okB (((-9223372036854775808)<=(r1.1.2.2.2.2.1+1))/\((r1.1.2.2.2.2.1+1)<=9223372036854775807))) (some (Sum.inl ((r1.1.1,((),((),(r1.1.2.2.2.1,((r1.1.2.2.2.2.1+1),()))))),(r1.2.1,(r1.2.2.1,()))))))))))else(some (Sum.inr (Sum.inl ((r1.1.1,((),((),(r1.1.2.2.2.1,())))),(r1.2.1,(r1.2.2.1,()))))))))
def go51_l1:ty8->Option (ty8⊕ty10):=(fun r0=>(bif(decide (r0.1.2.2.2.1<(r0.2.2.1.to.length:Int)))then(grd (okB ((0<=r0.1.2.2.2.1)/\(r0.1.2.2.2.1<(r0.2.2.1.to.length:Int)))) (qaj (grd (okB ((Fn.ok r0.2.1)/\((Edge.ok (r0.2.2.1.to.getD r0.1.2.2.2.1.toNat Edge.z))/\(r0.1.1.length=r0.2.1.qaa.length)))) (some ((Sp.qc0 r0.2.1 (r0.2.2.1.to.getD r0.1.2.2.2.1.toNat Edge.z) r0.1.1),()))) (fun r1=>(bif(!r1.1)then(some (Sum.inr (Sum.inr ((false,()),()))))else(grd (okB (((-9223372036854775808)<=(r0.1.2.2.2.1+1))/\((r0.1.2.2.2.1+1)<=9223372036854775807))) (some (Sum.inl ((r0.1.1,((),((),((r0.1.2.2.2.1+1),())))),(r0.2.1,(r0.2.2.1,()))))))))))else(some (Sum.inr (Sum.inl ((),()))))))
def go51_j3:(((List Bool)×(Unit×(Unit×Unit)))×(Fn×(Term×Unit)))->Option (Bool×Unit):=(fun z2=>(qaj (qap (go51_l1) ((z2.1.1,((),((),(0,())))),(z2.2.1,(z2.2.2.1,())))) (fun z3=>(qgu (fun z4=>(some (true,()))) (fun z4=>(some (z4.1.1,()))) z3))))
def go51_j2:(((List Bool)×(Unit×(Unit×Unit)))×(Fn×(Term×Unit)))->Option (Bool×Unit):=(fun z1=>(jpO (go51_j3) (fun j0=>(bif(decide (z1.2.2.1.kind=2))then(qaj (grd (okB ((1<=LEN)/\(z1.1.1.length=z1.2.1.qaa.length))) (some ((Sp.used z1.2.1 (z1.2.2.1.cond::([]:List Int)) z1.1.1),()))) (fun r0=>(bif(!r0.1)then(some (false,()))else(grd (okB ((0<=z1.2.2.1.cond)/\(z1.2.2.1.cond<(z1.2.1.qaa.length:Int)))) (bif(!(decide ((z1.2.1.qaa.getD z1.2.2.1.cond.toNat 0)=1)))then(some (false,()))else(j0 ((z1.1.1,((),((),()))),(z1.2.1,(z1.2.2.1,())))))))))else(bif(!(decide (z1.2.2.1.cond=(-1))))then(some (false,()))else(j0 ((z1.1.1,((),((),()))),(z1.2.1,(z1.2.2.1,())))))))))
def go51_j1:ty8->Option (Bool×Unit):=(fun z0=>(jpO (go51_j2) (fun j0=>(bif(!(decide ((z0.2.2.1.to.length:Int)=z0.1.2.2.2.1)))then(some (false,()))else(bif(!(decide (z0.2.2.1.kind=3)))then(bif(decide (0<(z0.2.2.1.qax.length:Int)))then(some (false,()))else(j0 ((z0.1.1,((),((),()))),(z0.2.1,(z0.2.2.1,())))))else(j0 ((z0.1.1,((),((),()))),(z0.2.1,(z0.2.2.1,())))))))))
def go51(x0:Fn)(x1:Term)(x2:(List Bool)):(Option (Bool×Unit)):=(jpO (go51_j1) (fun j0=>(bif(decide (x1.kind=1))then(j0 ((x2,((),((),(1,())))),(x0,(x1,()))))else(bif(decide (x1.kind=2))then(j0 ((x2,((),((),(2,())))),(x0,(x1,()))))else(bif(decide (x1.kind=3))then(bif(!(decide ((x1.qax.length:Int)=(x0.qax.length:Int))))then(some (false,()))else(qaj (grd (okB ((x1.qax.length<=LEN)/\(x2.length=x0.qaa.length))) (some ((Sp.used x0 x1.qax x2),()))) (fun r0=>(bif(!r0.1)then(some (false,()))else(qaj (qap (go51_l2) ((x2,((),((),(0,(0,()))))),(x0,(x1,())))) (fun z0=>(qgu (fun z1=>(j0 ((z1.1.1,((),((),(z1.1.2.2.2.1,())))),(z1.2.1,(z1.2.2.1,()))))) (fun z1=>(some (z1.1.1,()))) z0)))))))else(some (false,())))))))
theorem run51(x0:Fn)(x1:Term)(x2:(List Bool)):qdd (P:=Try.prog) [c48,c95] Try.f51 ann51 [(0,(.st 6)),(1,(.st 2)),(2,(.fz .bool))] [] .b [] (x0,(x1,(x2,()))) ()=go51 x0 x1 x2:=by kernel_rfl
def Sp.zdp(f:Fn)(qax:List Int)(i:Nat):Bool:=decide (f.qaa.getD (qax.getD i 0).toNat 0=f.qax.getD i 0)
def Sp.kindOk(f:Fn)(t:Term)(known:List Bool):Bool:=
 if t.kind=1\/t.kind=2 then true else if t.kind=3 then decide ((t.qax.length:Int)=f.qax.length)&&Sp.used f t.qax known&&(List.range t.qax.length).all (Sp.zdp f t.qax)else false
def Sp.qd9(k:Int):Int:=if k=1 then 1 else if k=2 then 2 else 0
def Sp.qnh(f:Fn)(t:Term)(known:List Bool):Bool:=
 if t.kind=2 then Sp.used f [t.cond] known&&decide (f.qaa.getD t.cond.toNat 0=1)else decide (t.cond=-1)
def Sp.qdm(f:Fn)(t:Term)(known:List Bool):Bool:=
 Sp.kindOk f t known&&(decide ((t.to.length:Int)=Sp.qd9 t.kind)&&(decide (t.kind=3)||decide ((t.qax.length:Int)<=0)))&&Sp.qnh f t known&&t.to.all (fun e=>Sp.qc0 f e known)
section
variable {f:Fn} {t:Term} {known:List Bool}
theorem zg8(hf:f.ok)(ht:t.ok)(hk:known.length=f.qaa.length):go51_j3 ((known,(),(),()),f,t,())=some (t.to.all (fun e=>Sp.qc0 f e known),()):=by
 have htt:t.to.length<=LEN:=ht.2.2.1.len;rw[qcl]at htt;unfold go51_j3 go51_l1;refine qa5 (qa6 (l:=t.to) (st:=fun i=>((known,(),(),(i:Int),()),f,t,())) rfl Edge.z (fun e=>Sp.qc0 f e known) (A:=.inl ((),())) (B:=.inr ((false,()),())) (fun i hi hp=>?_) (fun i hi hp=>?_) (fun _=>?_)) ?_
 ·have he:(t.to.getD i Edge.z).ok:=qgm ht.2.2.1 _ hi;simp(maxSteps:=1000000) (disch:=((try dsimp only);omega)) only[↓gsA,gsB]
  rw[qak ⟨hf,he,hk⟩,hp];simp(maxSteps:=1000000) (disch:=((try dsimp only);omega)) only[↓gsA,gsB]
 ·have he:(t.to.getD i Edge.z).ok:=qgm ht.2.2.1 _ hi;simp(maxSteps:=1000000) (disch:=((try dsimp only);omega)) only[↓gsA,gsB]
  rw[qak ⟨hf,he,hk⟩,hp];rfl
 ·simp(maxSteps:=1000000) (disch:=((try dsimp only);omega)) only[↓gsA,gsB]
 ·cases t.to.all (fun e=>Sp.qc0 f e known)<;>rfl
theorem zha(hf:f.ok)(ht:t.ok)(hk:known.length=f.qaa.length):go51_j2 ((known,(),(),()),f,t,())=some (Sp.qnh f t known&&t.to.all (fun e=>Sp.qc0 f e known),()):=by
 unfold go51_j2 Sp.qnh;simp(maxSteps:=1000000) (disch:=((try dsimp only);omega)) only[↓gsA,gsB]
 rw[zg8 hf ht hk];by_cases h:t.kind=2
 ·rw[if_pos h,if_pos h,qak ⟨by simp[LEN],hk⟩];cases hu:Sp.used f [t.cond] known with
  |false=>rfl
  |true=>
   have h2:=qf9 hu (i:=0) (by simp);simp only[List.getD_cons_zero]at h2;obtain⟨h2,h3,-⟩:=h2;simp(maxSteps:=1000000) (disch:=((try dsimp only);omega)) only[↓gsA,gsB]
   by_cases h4:f.qaa.getD t.cond.toNat 0=1
   ·rw[if_pos h4,decide_eq_true h4];rfl
   ·rw[if_neg h4,decide_eq_false h4];rfl
 ·rw[if_neg h,if_neg h];by_cases h4:t.cond=-1
  ·rw[if_pos h4,decide_eq_true h4];rfl
  ·rw[if_neg h4,decide_eq_false h4];rfl
theorem zd7(hf:f.ok)(ht:t.ok)(hk:known.length=f.qaa.length)(z:Int):go51_j1 ((known,(),(),z,()),f,t,()) =
  some ((decide ((t.to.length:Int)=z)&&(decide (t.kind=3)||decide ((t.qax.length:Int)<=0)))&&Sp.qnh f t known&&t.to.all (fun e=>Sp.qc0 f e known),()):=by
 unfold go51_j1;simp(maxSteps:=1000000) (disch:=((try dsimp only);omega)) only[↓gsA,gsB]
 rw[zha hf ht hk];have e3:decide ((t.qax.length:Int)<=0)=!decide (0<(t.qax.length:Int)):=by rw[<- decide_not];exact decide_eq_decide.2 (by omega)
 rw[e3];by_cases h1:(t.to.length:Int)=z<;>by_cases h2:t.kind=3<;>by_cases h3:0<(t.qax.length:Int)<;>simp only[h1,h2,h3,if_true,if_false,decide_true,decide_false]<;>rfl
theorem ok51(f:Fn)(t:Term)(known:List Bool)(h:f.ok/\t.ok/\known.length=f.qaa.length):go51 f t known=some (Sp.qdm f t known,()):=by
 obtain⟨hf,ht,hk⟩:=h;have htr:t.qax.length<=LEN:=ht.2.2.2.len;have hfr:f.qax.length<=LEN:=hf.2.2.2.2.1.len;have htr':=htr;rw[qcl]at htr' hfr;unfold go51;rw[qak ⟨htr,hk⟩];simp(maxSteps:=1000000) (disch:=((try dsimp only);omega)) only[↓gsA,gsB]
 simp only[zd7 hf ht hk];by_cases h1:t.kind=1
 ·simp[h1,Sp.qdm,Sp.kindOk,Sp.qd9]
 by_cases h2:t.kind=2
 ·simp[h2,Sp.qdm,Sp.kindOk,Sp.qd9]
 by_cases h3:t.kind=3
 rotate_left
 ·simp[h1,h2,h3,Sp.qdm,Sp.kindOk]
 rw[if_neg h1,if_neg h2,if_pos h3];by_cases h4:(t.qax.length:Int)=f.qax.length
 rotate_left
 ·rw[if_neg h4];simp[Sp.qdm,Sp.kindOk,h1,h2,h3,h4]
 rw[if_pos h4];cases hu:Sp.used f t.qax known with
 |false=>simp[Sp.qdm,Sp.kindOk,h1,h2,h3,hu]
 |true=>
  simp(maxSteps:=1000000) (disch:=((try dsimp only);omega)) only[↓gsA,gsB]
  unfold go51_l2;refine qa5 (qa6 (l:=List.range t.qax.length) (st:=fun i=>((known,(),(),0,(i:Int),()),f,t,())) rfl 0 (Sp.zdp f t.qax) (A:=.inl ((known,(),(),0,()),f,t,())) (B:=.inr ((false,()),())) (fun i hi hp=>?_) (fun i hi hp=>?_) (fun _=>?_)) ?_
  ·rw[zjb]at hi;rw[qaw hi]at hp;have hp:=of_decide_eq_true hp;obtain⟨u1,u2,-⟩:=qf9 hu (i:=i) hi;simp(maxSteps:=1000000) (disch:=((try dsimp only);omega)) only[↓gsA,gsB]
  ·rw[zjb]at hi;rw[qaw hi]at hp;have hp:=of_decide_eq_false hp;obtain⟨u1,u2,-⟩:=qf9 hu (i:=i) hi;simp(maxSteps:=1000000) (disch:=((try dsimp only);omega)) only[↓gsA,gsB]
  ·rw[zjb];simp(maxSteps:=1000000) (disch:=((try dsimp only);omega)) only[↓gsA,gsB]
  ·have hK:Sp.kindOk f t known=(List.range t.qax.length).all (Sp.zdp f t.qax):=by simp[Sp.kindOk,h3,h4,hu]
   simp only[Sp.qdm,hK];cases(List.range t.qax.length).all (Sp.zdp f t.qax)with
   |false=>rfl
   |true=>
    rw[if_pos rfl];simp(maxSteps:=1000000) (disch:=((try dsimp only);omega)) only[↓gsA,gsB]
    have e:Sp.qd9 t.kind=0:=by simp[Sp.qd9,h1,h2]
    rw[zd7 hf ht hk,e];rfl
end
def c51:Ctr Try.prog:=qbl 51 Try.f51 Try.func51 [c48,c95] ann51 [(0,(.st 6)),(1,(.st 2)),(2,(.fz .bool))] [] .b [] (fun x _=>grd (okB (x.1.ok/\x.2.1.ok/\x.2.2.1.length=x.1.qaa.length)) (some (Sp.qdm x.1 x.2.1 x.2.2.1,()))) (fun x _ r h=>FO (run51 x.1 x.2.1 x.2.2.1) (ok51 x.1 x.2.1 x.2.2.1) h)
end
end Go.Abs
namespace Go.Abs
open Go Go.Proofs
noncomputable section
def ann50:Ann:=(.seq .o (.join ⟨[(2,(.ptr 0 0)),(3,(.ptr 1 0))],sh60⟩ (.seq .o (.cond (.seq .o .o) .o)) (.join sh41 .o (.join sh41 (.seq .o (.cond (.seq .o .o) .o)) (.seq .o (.join ⟨[(2,(.ptr 0 0)),(3,(.ptr 1 0)),(5,.b),(6,(.i .i64))],sh60⟩ (.seq .o (.cond .o .o)) (.seq .o (.join sh42 (.seq .o (.block (.loop sh43 [((.exit 0),sh42)] (.join sh43 (.seq .o (.cond .o .o)) (.join sh43 (.block .o) .o))))) (.seq .o (.join ⟨[(3,(.ptr 0 0)),(6,(.i .i64)),(7,(.full 1)),(9,(.i .i64))],sh68⟩ (.join ⟨[(2,(.ptr 0 0)),(3,(.ptr 1 0)),(5,.b),(6,(.i .i64)),(7,(.full 2)),(9,(.i .i64)),(69,.b)],sh61⟩ .o (.cond (.join sh44 (.seq .o (.cond (.seq .o .o) .o)) .o) (.seq .o (.cond (.join sh44 (.seq .o (.cond (.seq .o .o) .o)) .o) .o)))) (.join ⟨[(3,(.ptr 0 0)),(6,(.i .i64)),(7,(.full 1))],sh68⟩ (.seq .o (.block (.seq .o (.cond (.seq .o .o) (.seq .o (.cond (.seq .o .o) (.join ⟨[(3,(.ptr 0 0)),(6,(.i .i64)),(7,(.full 1)),(9,(.i .i64)),(121,(.i .i64)),(151,.b)],sh68⟩ (.seq .o (.cond .o .o)) (.cond (.seq .o .o) (.seq .o (.cond (.seq .o .o) (.seq .o (.cond (.seq .o .o) (.seq .o (.cond (.seq .o .o) (.seq .o (.cond (.seq .o .o) (.seq .o (.cond (.seq .o .o) .o)))))))))))))))))) (.join ⟨[(6,(.i .i64)),(7,(.full 0))],[(.lst 3 (.int .i64))]⟩ (.seq .o (.cond (.seq .o .o) .o)) (.seq .o .o)))))))))))))
def go50_j7(j0:(((Unit×ty13)×ty12)->(Option (Bool×Unit)))):((Unit×(Unit×(Bool×(Int×(Unit×(Int×(Bool×Unit)))))))×(Fn×ty12))->Option (Bool×Unit):=(fun z5=>(bif z5.1.2.2.2.2.2.2.1 then(bif(decide (z5.2.2.1.mem<0))then(some (false,()))else(bif(decide ((z5.2.1.qag.length:Int)<=z5.2.2.1.mem))then(some (false,()))else(grd (okB ((0<=z5.2.2.1.mem)/\(z5.2.2.1.mem<(z5.2.1.qag.length:Int)))) (j0 (((),(z5.1.2.2.2.1,((),((z5.2.1.qag.getD z5.2.2.1.mem.toNat Arr.z).width,())))),(z5.2.2.1,(z5.2.2.2.1,())))))))else(bif z5.1.2.2.1 then(bif(decide (z5.2.2.1.mem<0))then(some (false,()))else(bif(decide ((z5.2.1.streams.length:Int)<=z5.2.2.1.mem))then(some (false,()))else(grd (okB ((0<=z5.2.2.1.mem)/\(z5.2.2.1.mem<(z5.2.1.streams.length:Int)))) (bif(!((z5.2.1.streams.getD z5.2.2.1.mem.toNat qbd.z).out==(decide (z5.2.2.1.op=28))))then(some (false,()))else(grd (okB ((0<=z5.2.2.1.mem)/\(z5.2.2.1.mem<(z5.2.1.streams.length:Int)))) (j0 (((),(z5.1.2.2.2.1,((),((z5.2.1.streams.getD z5.2.2.1.mem.toNat qbd.z).width,())))),(z5.2.2.1,(z5.2.2.2.1,())))))))))else(j0 (((),(z5.1.2.2.2.1,((),(z5.1.2.2.2.2.2.1,())))),(z5.2.2.1,(z5.2.2.2.1,())))))))
def go50_j6:((Unit×(Int×(Unit×(Int×(Int×(Bool×Unit))))))×ty12)->Option (Bool×Unit):=(fun z6=>(bif z6.1.2.2.2.2.2.1 then(grd (okB (((0:Int)<=0)/\(0<(z6.2.2.1.length:Int)))) (grd (Nat.blt (0:Int).toNat z6.2.2.1.length) (some ((decide ((z6.2.2.1.getD (0:Int).toNat 0)<z6.1.2.1)),()))))else(bif(decide (z6.1.2.2.2.2.1=24))then(grd (okB (((0:Int)<=0)/\(0<(z6.2.2.1.length:Int)))) (grd (Nat.blt (0:Int).toNat z6.2.2.1.length) (some ((decide (z6.1.2.1<(z6.2.2.1.getD (0:Int).toNat 0))),()))))else(bif(decide (z6.1.2.2.2.2.1=25))then(bif(decide (z6.1.2.2.2.1=z6.1.2.1))then(grd (okB (((0:Int)<=1)/\(1<(z6.2.2.1.length:Int)))) (grd (Nat.blt (1:Int).toNat z6.2.2.1.length) (some ((decide ((z6.2.2.1.getD (1:Int).toNat 0)=1)),()))))else(some (false,())))else(bif(decide (z6.1.2.2.2.2.1=26))then(grd (okB (((0:Int)<=1)/\(1<(z6.2.2.1.length:Int)))) (grd (Nat.blt (1:Int).toNat z6.2.2.1.length) (bif(decide (z6.1.2.2.2.1=(z6.2.2.1.getD (1:Int).toNat 0)))then(grd (okB (((0:Int)<=2)/\(2<(z6.2.2.1.length:Int)))) (grd (Nat.blt (2:Int).toNat z6.2.2.1.length) (some ((decide ((z6.2.2.1.getD (2:Int).toNat 0)=1)),()))))else(some (false,())))))else(bif(decide (z6.1.2.2.2.2.1=27))then(bif(decide (z6.1.2.2.2.1=z6.1.2.1))then(grd (okB (((0:Int)<=0)/\(0<(z6.2.2.1.length:Int)))) (grd (Nat.blt (0:Int).toNat z6.2.2.1.length) (some ((decide ((z6.2.2.1.getD (0:Int).toNat 0)=1)),()))))else(some (false,())))else(bif(decide (z6.1.2.2.2.2.1=28))then(grd (okB (((0:Int)<=0)/\(0<(z6.2.2.1.length:Int)))) (grd (Nat.blt (0:Int).toNat z6.2.2.1.length) (bif(decide (z6.1.2.2.2.1=(z6.2.2.1.getD (0:Int).toNat 0)))then(grd (okB (((0:Int)<=1)/\(1<(z6.2.2.1.length:Int)))) (grd (Nat.blt (1:Int).toNat z6.2.2.1.length) (some ((decide ((z6.2.2.1.getD (1:Int).toNat 0)=1)),()))))else(some (false,())))))else(bif(Sp.qcz z6.2.1.op)then(bif(decide (z6.1.2.1=1))then(grd (okB (((0:Int)<=0)/\(0<(z6.2.2.1.length:Int)))) (grd (Nat.blt (0:Int).toNat z6.2.2.1.length) (grd (okB (((0:Int)<=1)/\(1<(z6.2.2.1.length:Int)))) (grd (Nat.blt (1:Int).toNat z6.2.2.1.length) (some ((decide ((z6.2.2.1.getD (0:Int).toNat 0)=(z6.2.2.1.getD (1:Int).toNat 0))),()))))))else(some (false,())))else(grd (okB (((0:Int)<=0)/\(0<(z6.2.2.1.length:Int)))) (grd (Nat.blt (0:Int).toNat z6.2.2.1.length) (bif(decide ((z6.2.2.1.getD (0:Int).toNat 0)=z6.1.2.1))then(grd (okB (((0:Int)<=1)/\(1<(z6.2.2.1.length:Int)))) (grd (Nat.blt (1:Int).toNat z6.2.2.1.length) (some ((decide ((z6.2.2.1.getD (1:Int).toNat 0)=z6.1.2.1)),()))))else(some (false,())))))))))))))
def go50_j5:((Unit×ty13)×ty12)->Option (Bool×Unit):=(fun z5=>(bif(decide (z5.2.1.op=1))then(some ((decide ((Sp.fit z5.1.2.1 z5.2.1.num)=z5.2.1.num)),()))else(bif(decide (z5.2.1.op=21))then(grd (okB (((0:Int)<=0)/\(0<(z5.2.2.1.length:Int)))) (grd (Nat.blt (0:Int).toNat z5.2.2.1.length) (bif(decide ((z5.2.2.1.getD (0:Int).toNat 0)=1))then(grd (okB (((0:Int)<=1)/\(1<(z5.2.2.1.length:Int)))) (grd (Nat.blt (1:Int).toNat z5.2.2.1.length) (bif(decide ((z5.2.2.1.getD (1:Int).toNat 0)=z5.1.2.1))then(grd (okB (((0:Int)<=2)/\(2<(z5.2.2.1.length:Int)))) (grd (Nat.blt (2:Int).toNat z5.2.2.1.length) (some ((decide ((z5.2.2.1.getD (2:Int).toNat 0)=z5.1.2.1)),()))))else(some (false,())))))else(some (false,())))))else(jpO (go50_j6) (fun j0=>(bif(decide (z5.2.1.op=22))then(j0 (((),(z5.1.2.1,((),(z5.1.2.2.2.1,(z5.2.1.op,(true,())))))),(z5.2.1,(z5.2.2.1,()))))else(j0 (((),(z5.1.2.1,((),(z5.1.2.2.2.1,(z5.2.1.op,((decide (z5.2.1.op=23)),())))))),(z5.2.1,(z5.2.2.1,()))))))))))
def go50_l1:((Unit×(Unit×(Bool×ty13)))×(Fn×ty12))->Option (((Unit×(Unit×(Bool×ty13)))×(Fn×ty12))⊕((Unit×(Unit×(Bool×(Int×(Unit×Unit)))))×(Fn×ty12))):=(fun r0=>(bif(decide (r0.1.2.2.2.2.2.1<(r0.2.2.1.args.length:Int)))then(grd (okB ((0<=r0.1.2.2.2.2.2.1)/\(r0.1.2.2.2.2.2.1<(r0.2.2.1.args.length:Int)))) (grd (okB ((0<=(r0.2.2.1.args.getD r0.1.2.2.2.2.2.1.toNat 0))/\((r0.2.2.1.args.getD r0.1.2.2.2.2.2.1.toNat 0)<(r0.2.1.qaa.length:Int)))) (grd (okB ((0<=r0.1.2.2.2.2.2.1)/\(r0.1.2.2.2.2.2.1<(r0.2.2.2.1.length:Int)))) (grd (Nat.blt r0.1.2.2.2.2.2.1.toNat r0.2.2.2.1.length) (grd (okB (((-9223372036854775808)<=(r0.1.2.2.2.2.2.1+1))/\((r0.1.2.2.2.2.2.1+1)<=9223372036854775807))) (some (Sum.inl (((),((),(r0.1.2.2.1,(r0.1.2.2.2.1,((),((r0.1.2.2.2.2.2.1+1),())))))),(r0.2.1,(r0.2.2.1,((r0.2.2.2.1.set r0.1.2.2.2.2.2.1.toNat (r0.2.1.qaa.getD (r0.2.2.1.args.getD r0.1.2.2.2.2.2.1.toNat 0).toNat 0)),())))))))))))else(some (Sum.inr (((),((),(r0.1.2.2.1,(r0.1.2.2.2.1,((),()))))),(r0.2.1,(r0.2.2.1,(r0.2.2.2.1,()))))))))
def go50_j4:((Unit×(Unit×(Bool×(Int×Unit))))×(Fn×(qat×Unit)))->Option (Bool×Unit):=(fun z3=>(qaj (qap (go50_l1) (((),((),(z3.1.2.2.1,(z3.1.2.2.2.1,((),(0,())))))),(z3.2.1,(z3.2.2.1,((0::(0::(0::([]:List Int)))),()))))) (fun z4=>(jpO (go50_j5) (fun j0=>(jpO (go50_j7 j0) (fun j1=>(bif(decide (z4.2.2.1.op=25))then(j1 (((),((),(z4.1.2.2.1,(z4.1.2.2.2.1,((),(0,(true,()))))))),(z4.2.1,(z4.2.2.1,(z4.2.2.2.1,())))))else(j1 (((),((),(z4.1.2.2.1,(z4.1.2.2.2.1,((),(0,((decide (z4.2.2.1.op=26)),()))))))),(z4.2.1,(z4.2.2.1,(z4.2.2.2.1,())))))))))))))
def go50_j3:((Unit×(Unit×(Bool×Unit)))×(Fn×(qat×Unit)))->Option (Bool×Unit):=(fun z2=>(jpO (go50_j4) (fun j0=>(bif(Sp.result z2.2.2.1.op)then(grd (okB ((0<=z2.2.2.1.dest)/\(z2.2.2.1.dest<(z2.2.1.qaa.length:Int)))) (j0 (((),((),(z2.1.2.2.1,((z2.2.1.qaa.getD z2.2.2.1.dest.toNat 0),())))),(z2.2.1,(z2.2.2.1,())))))else(j0 (((),((),(z2.1.2.2.1,(0,())))),(z2.2.1,(z2.2.2.1,()))))))))
def go50_j2:((Unit×(Unit×(Bool×Unit)))×(Fn×(qat×Unit)))->Option (Bool×Unit):=(fun z1=>(jpO (go50_j3) (fun j0=>(bif(!(decide (z1.2.2.1.mem=0)))then(bif(!z1.1.2.2.1)then(some (false,()))else(j0 (((),((),(z1.1.2.2.1,()))),(z1.2.1,(z1.2.2.1,())))))else(j0 (((),((),(z1.1.2.2.1,()))),(z1.2.1,(z1.2.2.1,()))))))))
def go50_j1:((Unit×(Unit×Unit))×(Fn×(qat×Unit)))->Option (Bool×Unit):=(fun z0=>(jpO (go50_j2) (fun j0=>(bif(decide (25<=z0.2.2.1.op))then(j0 (((),((),((decide (z0.2.2.1.op<=28)),()))),(z0.2.1,(z0.2.2.1,()))))else(j0 (((),((),(false,()))),(z0.2.1,(z0.2.2.1,()))))))))
def go50(x0:Fn)(x1:qat):(Option (Bool×Unit)):=(jpO (go50_j1) (fun j0=>(bif(!(decide (x1.num=0)))then(bif(!(decide (x1.op=1)))then(some (false,()))else(j0 (((),((),())),(x0,(x1,())))))else(j0 (((),((),())),(x0,(x1,())))))))
theorem run50(x0:Fn)(x1:qat):qdd (P:=Try.prog) [c49,c93,c94] Try.f50 ann50 [(0,(.st 6)),(1,(.st 0))] [] .b [] (x0,(x1,())) ()=go50 x0 x1:=by kernel_rfl
def Sp.qhf(op:Int):Bool:=decide (25<=op)&&decide (op<=28)
def Sp.wOf(f:Fn)(x:qat):Int:=if Sp.result x.op then f.qaa.getD x.dest.toNat 0 else 0
def Sp.aL(f:Fn)(x:qat)(i:Nat):List Int:=
 [if 0<i then f.qaa.getD (x.args.getD 0 0).toNat 0 else 0,if 1<i then f.qaa.getD (x.args.getD 1 0).toNat 0 else 0,if 2<i then f.qaa.getD (x.args.getD 2 0).toNat 0 else 0]
def Sp.mOf(f:Fn)(x:qat):Int:=
 if x.op=25\/x.op=26 then(f.qag.getD x.mem.toNat Arr.z).width else if Sp.qhf x.op then(f.streams.getD x.mem.toNat qbd.z).width else 0
def Sp.qp2(x:qat):Bool:=!(!decide (x.num=0)&&!decide (x.op=1))&&!(!decide (x.mem=0)&&!Sp.qhf x.op)
def Sp.qjd(f:Fn)(x:qat):Bool:=
 if x.op=25\/x.op=26 then !decide (x.mem<0)&&!decide ((f.qag.length:Int)<=x.mem)
 else if Sp.qhf x.op then !decide (x.mem<0)&&!decide ((f.streams.length:Int)<=x.mem)&&((f.streams.getD x.mem.toNat qbd.z).out==decide (x.op=28))else true
def Sp.qn8(x:qat)(w m a0 a1 a2:Int):Bool:=
 if x.op=1 then decide (Sp.fit w x.num=x.num)
 else if x.op=21 then decide (a0=1)&&decide (a1=w)&&decide (a2=w)
 else if x.op=22\/x.op=23 then decide (a0<w)
 else if x.op=24 then decide (w<a0)
 else if x.op=25 then decide (m=w)&&decide (a1=1)
 else if x.op=26 then decide (m=a1)&&decide (a2=1)
 else if x.op=27 then decide (m=w)&&decide (a0=1)
 else if x.op=28 then decide (m=a0)&&decide (a1=1)
 else if Sp.qcz x.op then decide (w=1)&&decide (a0=a1)
 else decide (a0=w)&&decide (a1=w)
def Sp.qdp(f:Fn)(x:qat):Bool:=
 Sp.qp2 x&&Sp.qjd f x&&Sp.qn8 x (Sp.wOf f x) (Sp.mOf f x) ((Sp.aL f x x.args.length).getD 0 0) ((Sp.aL f x x.args.length).getD 1 0) ((Sp.aL f x x.args.length).getD 2 0)
theorem ze6(f:Fn)(x:qat){i:Nat}(h:i<3):(Sp.aL f x i).set i (f.qaa.getD (x.args.getD i 0).toNat 0)=Sp.aL f x (i+1):=by
 match i,h with
 |0,_=>simp[Sp.aL]
 |1,_=>simp[Sp.aL]
 |2,_=>simp[Sp.aL]
section
variable {f:Fn} {x:qat} {l:List Int} {w m:Int}
theorem zg5(hl:l.length=3)(op:Int)(b:Bool):go50_j6 (((),w,(),m,op,b,()),x,l,())=some (if b=true then decide (l.getD 0 0<w)else if op=24 then decide (w<l.getD 0 0)
 else if op=25 then decide (m=w)&&decide (l.getD 1 0=1)
 else if op=26 then decide (m=l.getD 1 0)&&decide (l.getD 2 0=1)
 else if op=27 then decide (m=w)&&decide (l.getD 0 0=1)
 else if op=28 then decide (m=l.getD 0 0)&&decide (l.getD 1 0=1)
 else if Sp.qcz x.op then decide (w=1)&&decide (l.getD 0 0=l.getD 1 0)
 else decide (l.getD 0 0=w)&&decide (l.getD 1 0=w),()):=by
 unfold go50_j6;have g:∀k:Nat,k<3->∀ {ρ:Type} (y:Option ρ),grd (okB ((0:Int)<=(k:Int)/\(k:Int)<((l.length:Nat):Int))) y=y:=fun k hk ρ y=>qin (by omega);have g0:∀ {ρ:Type} (y:Option ρ),grd (okB ((0:Int)<=(0:Int)/\(0:Int)<((l.length:Nat):Int))) y=y:=g 0 (by omega);have g1:∀ {ρ:Type} (y:Option ρ),grd (okB ((0:Int)<=(1:Int)/\(1:Int)<((l.length:Nat):Int))) y=y:=g 1 (by omega);have g2:∀ {ρ:Type} (y:Option ρ),grd (okB ((0:Int)<=(2:Int)/\(2:Int)<((l.length:Nat):Int))) y=y:=g 2 (by omega);have b0:∀ {ρ:Type} (y:Option ρ),grd (Nat.blt 0 l.length) y=y:=fun y=>qds (by omega);have b1:∀ {ρ:Type} (y:Option ρ),grd (Nat.blt 1 l.length) y=y:=fun y=>qds (by omega);have b2:∀ {ρ:Type} (y:Option ρ),grd (Nat.blt 2 l.length) y=y:=fun y=>qds (by omega);simp only[g0,g1,g2,b0,b1,b2,qb8,show Int.toNat 0=0 from rfl,show Int.toNat 1=1 from rfl,show Int.toNat 2=2 from rfl];generalize l.getD 0 0=a0;generalize l.getD 1 0=a1;generalize l.getD 2 0=a2;have ab:∀(p:Prop) [Decidable p] (c:Bool),(if p then(some (c,()):Option (Bool×Unit))else some (false,()))=some (decide p&&c,()):=fun p _ c=>by by_cases h:p<;>simp[h]
 simp only[ab];cases b
 ·cases Sp.qcz x.op<;>simp only[cond_true,cond_false,zjw,if_true,if_false]<;>repeat' split
  all_goals rfl
 ·rfl
theorem zg6(hl:l.length=3):go50_j5 (((),w,(),m,()),x,l,())=some (Sp.qn8 x w m (l.getD 0 0) (l.getD 1 0) (l.getD 2 0),()):=by
 unfold go50_j5 Sp.qn8;have g0:∀ {ρ:Type} (y:Option ρ),grd (okB ((0:Int)<=(0:Int)/\(0:Int)<((l.length:Nat):Int))) y=y:=fun y=>qin (by omega);have g1:∀ {ρ:Type} (y:Option ρ),grd (okB ((0:Int)<=(1:Int)/\(1:Int)<((l.length:Nat):Int))) y=y:=fun y=>qin (by omega);have g2:∀ {ρ:Type} (y:Option ρ),grd (okB ((0:Int)<=(2:Int)/\(2:Int)<((l.length:Nat):Int))) y=y:=fun y=>qin (by omega);have b0:∀ {ρ:Type} (y:Option ρ),grd (Nat.blt 0 l.length) y=y:=fun y=>qds (by omega);have b1:∀ {ρ:Type} (y:Option ρ),grd (Nat.blt 1 l.length) y=y:=fun y=>qds (by omega);have b2:∀ {ρ:Type} (y:Option ρ),grd (Nat.blt 2 l.length) y=y:=fun y=>qds (by omega);have ab:∀(p:Prop) [Decidable p] (c:Bool),(if p then(some (c,()):Option (Bool×Unit))else some (false,()))=some (decide p&&c,()):=fun p _ c=>by by_cases h:p<;>simp[h]
 simp only[g0,g1,g2,b0,b1,b2,qb8,qcp,zg5 hl,show Int.toNat 0=0 from rfl,show Int.toNat 1=1 from rfl,show Int.toNat 2=2 from rfl,ab];by_cases h1:x.op=1
 ·simp[h1]
 by_cases h2:x.op=21
 ·simp[h2,zkx]
 by_cases h3:x.op=22
 ·simp[h3]
 by_cases h4:x.op=23
 ·simp[h4]
 simp[h1,h2,h3,h4]
theorem zg4(j0:(((Unit×(Int×(Unit×(Int×Unit))))×(qat×((List Int)×Unit)))->(Option (Bool×Unit)))):go50_j7 j0 (((),(),Sp.qhf x.op,w,(),0,(decide (x.op=25\/x.op=26)),()),f,x,l,()) =
  if Sp.qjd f x=true then j0 (((),w,(),Sp.mOf f x,()),x,l,())else some (false,()):=by
 unfold go50_j7 Sp.qjd Sp.mOf;simp(maxSteps:=1000000) (disch:=((try dsimp only);omega)) only[↓gsA,gsB]
 by_cases h1:x.op=25\/x.op=26
 ·simp only[if_pos h1];by_cases h2:x.mem<0<;>by_cases h3:(f.qag.length:Int)<=x.mem<;>simp[h2,h3]
 ·simp only[if_neg h1];cases Sp.qhf x.op
  ·simp
  ·by_cases h2:x.mem<0<;>by_cases h3:(f.streams.length:Int)<=x.mem<;>cases(f.streams.getD x.mem.toNat qbd.z).out==decide (x.op=28)<;>simp[h2,h3]
theorem zg7(ha:x.args.length<=3)(hu:∀i,i<x.args.length->0<=x.args.getD i 0/\x.args.getD i 0<f.qaa.length):go50_j4 (((),(),Sp.qhf x.op,w,()),f,x,()) =
  some (Sp.qjd f x&&Sp.qn8 x w (Sp.mOf f x) ((Sp.aL f x x.args.length).getD 0 0) ((Sp.aL f x x.args.length).getD 1 0) ((Sp.aL f x x.args.length).getD 2 0),()):=by
 unfold go50_j4 go50_l1;refine qa5 (qcj (st:=fun i=>(((),(),Sp.qhf x.op,w,(),(i:Int),()),f,x,Sp.aL f x i,())) rfl x.args.length (X0:=(((),(),Sp.qhf x.op,w,(),()),f,x,Sp.aL f x x.args.length,())) (fun i hi=>?_) ?_) ?_
 ·have hl:(Sp.aL f x i).length=3:=rfl;obtain⟨u1,u2⟩:=hu i hi;have e:=ze6 f x (i:=i) (by omega);simp(maxSteps:=1000000) (disch:=((try dsimp only);omega)) only[↓gsA,gsB]
  rw[<- e]
 ·simp(maxSteps:=1000000) (disch:=((try dsimp only);omega)) only[↓gsA,gsB]
 ·have hl:(Sp.aL f x x.args.length).length=3:=rfl;have e:∀b:Bool,b=decide (x.op=25\/x.op=26)->go50_j7 go50_j5 (((),(),Sp.qhf x.op,w,(),0,b,()),f,x,Sp.aL f x x.args.length,()) =
    some (Sp.qjd f x&&Sp.qn8 x w (Sp.mOf f x) ((Sp.aL f x x.args.length).getD 0 0) ((Sp.aL f x x.args.length).getD 1 0) ((Sp.aL f x x.args.length).getD 2 0),()):=fun b hb=>by
   subst hb;rw[zg4,zg6 hl];cases Sp.qjd f x<;>rfl
  simp only[qcp,qb8];split
  ·rename_i h;exact e true (by simp[h])
  ·rename_i h;exact e (decide (x.op=26)) (by simp[h])
theorem zg9(ha:x.args.length<=3)(hu:∀i,i<x.args.length->0<=x.args.getD i 0/\x.args.getD i 0<f.qaa.length)(hd:Sp.result x.op=true->0<=x.dest/\x.dest<f.qaa.length):go50_j3 (((),(),Sp.qhf x.op,()),f,x,()) =
  some (Sp.qjd f x&&Sp.qn8 x (Sp.wOf f x) (Sp.mOf f x) ((Sp.aL f x x.args.length).getD 0 0) ((Sp.aL f x x.args.length).getD 1 0) ((Sp.aL f x x.args.length).getD 2 0),()):=by
 unfold go50_j3 Sp.wOf;simp only[qcp,zg7 ha hu];cases h:Sp.result x.op with
 |false=>rfl
 |true=>
  obtain⟨h1,h2⟩:=hd h;simp(maxSteps:=1000000) (disch:=((try dsimp only);omega)) only[↓gsA,gsB]
def Sp.qmy(f:Fn)(x:qat):Prop:=x.args.length<=3/\(∀i,i<x.args.length->0<=x.args.getD i 0/\x.args.getD i 0<f.qaa.length)/\(Sp.result x.op=true->0<=x.dest/\x.dest<f.qaa.length)
theorem ok50(f:Fn)(x:qat)(h:Sp.qmy f x):go50 f x=some (Sp.qdp f x,()):=by
 obtain⟨ha,hu,hd⟩:=h;have e1:go50_j1 (((),(),()),f,x,())=some (!(!decide (x.mem=0)&&!Sp.qhf x.op)&&(Sp.qjd f x&&Sp.qn8 x (Sp.wOf f x) (Sp.mOf f x) ((Sp.aL f x x.args.length).getD 0 0) ((Sp.aL f x x.args.length).getD 1 0) ((Sp.aL f x x.args.length).getD 2 0)),()):=by
  have e:∀b:Bool,b=Sp.qhf x.op->go50_j2 (((),(),b,()),f,x,())=some (!(!decide (x.mem=0)&&!Sp.qhf x.op)&&(Sp.qjd f x&&Sp.qn8 x (Sp.wOf f x) (Sp.mOf f x) ((Sp.aL f x x.args.length).getD 0 0) ((Sp.aL f x x.args.length).getD 1 0) ((Sp.aL f x x.args.length).getD 2 0)),()):=fun b hb=>by
   subst hb;unfold go50_j2;simp only[qcp,zg9 ha hu hd,qq6,qb8];by_cases hm:x.mem=0
   ·rw[if_pos hm,decide_eq_true hm];rfl
   ·rw[if_neg hm,decide_eq_false hm];cases Sp.qhf x.op<;>rfl
  unfold go50_j1;simp only[qcp,qb8];split
  ·rename_i h;exact e _ (by simp[Sp.qhf,h])
  ·rename_i h;exact e _ (by simp[Sp.qhf,h])
 unfold go50 Sp.qdp Sp.qp2;simp only[qcp,e1,qq6,qb8];by_cases h1:x.num=0
 ·rw[if_pos h1,decide_eq_true h1];simp[zkx]
 ·rw[if_neg h1,decide_eq_false h1];by_cases h2:x.op=1
  ·rw[if_pos h2,decide_eq_true h2];simp[zkx]
  ·rw[if_neg h2,decide_eq_false h2];rfl
end
def c50:Ctr Try.prog:=qbl 50 Try.f50 Try.func50 [c49,c93,c94] ann50 [(0,(.st 6)),(1,(.st 0))] [] .b [] (fun x _=>grd (okB (Sp.qmy x.1 x.2.1)) (some (Sp.qdp x.1 x.2.1,())))
 (fun x _ r h=>FO (run50 x.1 x.2.1) (ok50 x.1 x.2.1) h)
end
end Go.Abs
namespace Go.Abs
open Go Go.Proofs
noncomputable section
def ann18:Ann:=(.seq .o (.join sh34 (.seq .o (.cond (.seq .o .o) .o)) (.seq .o (.join sh45 (.seq .o (.block (.loop sh46 [((.exit 0),sh45)] (.seq .o (.join sh46 (.cond .o .o) (.join sh46 (.block .o) .o)))))) (.join ⟨[],[]⟩ (.seq .o (.block (.loop sh47 [((.exit 2),⟨[],[]⟩),(.ret,sh22)] (.join sh47 (.seq .o (.cond .o .o)) (.join sh47 (.block (.seq .o (.join ⟨sh66,[(.box 30 (.st 6)),(.lst 4 .bool),(.box 41 (.st 3))]⟩ (.seq .o (.cond (.seq .o .o) .o)) (.seq .o (.join sh48 (.seq .o (.block (.loop sh49 [((.exit 4),sh48)] (.seq .o (.join sh49 (.cond .o .o) (.join sh49 (.block .o) .o)))))) (.join sh48 (.seq .o (.block (.loop sh50 [((.exit 6),sh48),(.ret,sh22)] (.join sh50 (.seq .o (.cond .o .o)) (.join sh50 (.block (.seq .o (.join ⟨[(1,(.ptr 0 0)),(3,(.full 1)),(4,(.i .i64)),(5,(.ptr 2 0)),(6,(.full 3)),(7,(.i .i64)),(8,(.i .i64))],sh63⟩ (.seq .o (.cond (.seq .o .o) .o)) (.seq .o .o)))) .o))))) (.join sh48 (.seq .o (.block (.loop sh51 [((.exit 8),sh48),(.ret,sh22)] (.join sh51 (.seq .o (.cond .o .o)) (.join sh51 (.block (.seq .o (.join sh52 (.seq .o (.cond (.seq .o .o) .o)) (.join sh52 (.seq .o (.cond (.seq .o (.cond (.seq .o .o) .o)) (.seq .o (.cond (.seq .o .o) .o)))) (.join sh52 (.seq .o (.cond (.seq .o .o) .o)) (.seq .o (.cond (.seq .o .o) .o))))))) .o))))) (.seq .o (.cond (.seq .o .o) .o))))))))) .o))))) (.seq .o .o))))))
def go18_j2(j0:(ty6->(Option ty1))):((Unit×(Unit×(Int×(Unit×(Unit×(Int×(Unit×Unit)))))))×(Fn×((List Bool)×(Block×((List Bool)×(qat×Unit))))))->Option ty1:=(fun z4=>(qaj (grd (okB (Sp.qmy z4.2.1 z4.2.2.2.2.2.1)) (some ((Sp.qdp z4.2.1 z4.2.2.2.2.2.1),()))) (fun r7=>(bif(!r7.1)then(some (Sum.inr (Sum.inr ((false,()),()))))else(bif(Sp.result z4.2.2.2.2.2.1.op)then(grd (okB ((0<=z4.2.2.2.2.2.1.dest)/\(z4.2.2.2.2.2.1.dest<(z4.2.2.1.length:Int)))) (grd (Nat.blt z4.2.2.2.2.2.1.dest.toNat z4.2.2.1.length) (grd (okB ((0<=z4.2.2.2.2.2.1.dest)/\(z4.2.2.2.2.2.1.dest<(z4.2.2.2.2.1.length:Int)))) (grd (Nat.blt z4.2.2.2.2.2.1.dest.toNat z4.2.2.2.2.1.length) (j0 (((),((),(z4.1.2.2.1,((),((),(z4.1.2.2.2.2.2.1,())))))),(z4.2.1,((z4.2.2.1.set z4.2.2.2.2.2.1.dest.toNat true),(z4.2.2.2.1,((z4.2.2.2.2.1.set z4.2.2.2.2.2.1.dest.toNat true),()))))))))))else(j0 (((),((),(z4.1.2.2.1,((),((),(z4.1.2.2.2.2.2.1,())))))),(z4.2.1,(z4.2.2.1,(z4.2.2.2.1,(z4.2.2.2.2.1,())))))))))))
def go18_j1:ty6->Option ty1:=(fun z4=>(grd (okB (((-9223372036854775808)<=(z4.1.2.2.2.2.2.1+1))/\((z4.1.2.2.2.2.2.1+1)<=9223372036854775807))) (some (Sum.inl (((),((),(z4.1.2.2.1,((),((),((z4.1.2.2.2.2.2.1+1),())))))),(z4.2.1,(z4.2.2.1,(z4.2.2.2.1,(z4.2.2.2.2.1,())))))))))
def go18_l5:ty6->Option ty1:=(fun r5=>(bif(decide (r5.1.2.2.2.2.2.1<(r5.2.2.2.1.insts.length:Int)))then(jpO (go18_j1) (fun j0=>(grd (okB ((0<=r5.1.2.2.2.2.2.1)/\(r5.1.2.2.2.2.2.1<(r5.2.2.2.1.insts.length:Int)))) (bif(!(decide ((Sp.arity (r5.2.2.2.1.insts.getD r5.1.2.2.2.2.2.1.toNat qat.z).op)=(((r5.2.2.2.1.insts.getD r5.1.2.2.2.2.2.1.toNat qat.z).args.length:Nat):Int))))then(some (Sum.inr (Sum.inr ((false,()),()))))else(qaj (grd (okB (((r5.2.2.2.1.insts.getD r5.1.2.2.2.2.2.1.toNat qat.z).args.length<=LEN)/\(r5.2.2.2.2.1.length=r5.2.1.qaa.length))) (some ((Sp.used r5.2.1 (r5.2.2.2.1.insts.getD r5.1.2.2.2.2.2.1.toNat qat.z).args r5.2.2.2.2.1),()))) (fun r6=>(bif(!r6.1)then(some (Sum.inr (Sum.inr ((false,()),()))))else(jpO (go18_j2 j0) (fun j1=>(bif(Sp.result (r5.2.2.2.1.insts.getD r5.1.2.2.2.2.2.1.toNat qat.z).op)then(bif(!(Sp.within r5.2.1 (r5.2.2.2.1.insts.getD r5.1.2.2.2.2.2.1.toNat qat.z).dest))then(some (Sum.inr (Sum.inr ((false,()),()))))else(grd (okB ((0<=(r5.2.2.2.1.insts.getD r5.1.2.2.2.2.2.1.toNat qat.z).dest)/\((r5.2.2.2.1.insts.getD r5.1.2.2.2.2.2.1.toNat qat.z).dest<(r5.2.2.1.length:Int)))) (grd (Nat.blt (r5.2.2.2.1.insts.getD r5.1.2.2.2.2.2.1.toNat qat.z).dest.toNat r5.2.2.1.length) (bif(r5.2.2.1.getD (r5.2.2.2.1.insts.getD r5.1.2.2.2.2.2.1.toNat qat.z).dest.toNat false)then(some (Sum.inr (Sum.inr ((false,()),()))))else(j1 (((),((),(r5.1.2.2.1,((),((),(r5.1.2.2.2.2.2.1,((),()))))))),(r5.2.1,(r5.2.2.1,(r5.2.2.2.1,(r5.2.2.2.2.1,((r5.2.2.2.1.insts.getD r5.1.2.2.2.2.2.1.toNat qat.z),())))))))))))else(bif(!(decide ((r5.2.2.2.1.insts.getD r5.1.2.2.2.2.2.1.toNat qat.z).dest=(-1))))then(some (Sum.inr (Sum.inr ((false,()),()))))else(j1 (((),((),(r5.1.2.2.1,((),((),(r5.1.2.2.2.2.2.1,((),()))))))),(r5.2.1,(r5.2.2.1,(r5.2.2.2.1,(r5.2.2.2.2.1,((r5.2.2.2.1.insts.getD r5.1.2.2.2.2.2.1.toNat qat.z),()))))))))))))))))))else(some (Sum.inr (Sum.inl (((),((),(r5.1.2.2.1,((),((),()))))),(r5.2.1,(r5.2.2.1,(r5.2.2.2.1,(r5.2.2.2.2.1,()))))))))))
def go18_l4:ty6->Option ty1:=(fun r5=>(bif(decide (r5.1.2.2.2.2.2.1<(r5.2.2.2.1.params.length:Int)))then(grd (okB ((0<=r5.1.2.2.2.2.2.1)/\(r5.1.2.2.2.2.2.1<(r5.2.2.2.1.params.length:Int)))) (bif(!(Sp.within r5.2.1 (r5.2.2.2.1.params.getD r5.1.2.2.2.2.2.1.toNat 0)))then(some (Sum.inr (Sum.inr ((false,()),()))))else(grd (okB ((0<=(r5.2.2.2.1.params.getD r5.1.2.2.2.2.2.1.toNat 0))/\((r5.2.2.2.1.params.getD r5.1.2.2.2.2.2.1.toNat 0)<(r5.2.2.1.length:Int)))) (grd (Nat.blt (r5.2.2.2.1.params.getD r5.1.2.2.2.2.2.1.toNat 0).toNat r5.2.2.1.length) (bif(r5.2.2.1.getD (r5.2.2.2.1.params.getD r5.1.2.2.2.2.2.1.toNat 0).toNat false)then(some (Sum.inr (Sum.inr ((false,()),()))))else(grd (okB ((0<=(r5.2.2.2.1.params.getD r5.1.2.2.2.2.2.1.toNat 0))/\((r5.2.2.2.1.params.getD r5.1.2.2.2.2.2.1.toNat 0)<(r5.2.2.1.length:Int)))) (grd (Nat.blt (r5.2.2.2.1.params.getD r5.1.2.2.2.2.2.1.toNat 0).toNat r5.2.2.1.length) (grd (okB ((0<=(r5.2.2.2.1.params.getD r5.1.2.2.2.2.2.1.toNat 0))/\((r5.2.2.2.1.params.getD r5.1.2.2.2.2.2.1.toNat 0)<(r5.2.2.2.2.1.length:Int)))) (grd (Nat.blt (r5.2.2.2.1.params.getD r5.1.2.2.2.2.2.1.toNat 0).toNat r5.2.2.2.2.1.length) (grd (okB (((-9223372036854775808)<=(r5.1.2.2.2.2.2.1+1))/\((r5.1.2.2.2.2.2.1+1)<=9223372036854775807))) (some (Sum.inl (((),((),(r5.1.2.2.1,((),((),((r5.1.2.2.2.2.2.1+1),())))))),(r5.2.1,((r5.2.2.1.set (r5.2.2.2.1.params.getD r5.1.2.2.2.2.2.1.toNat 0).toNat true),(r5.2.2.2.1,((r5.2.2.2.2.1.set (r5.2.2.2.1.params.getD r5.1.2.2.2.2.2.1.toNat 0).toNat true),())))))))))))))))))else(some (Sum.inr (Sum.inl (((),((),(r5.1.2.2.1,((),((),()))))),(r5.2.1,(r5.2.2.1,(r5.2.2.2.1,(r5.2.2.2.2.1,()))))))))))
def go18_l3:((Unit×(Unit×(Int×ty7)))×ty14)->Option (((Unit×(Unit×(Int×ty7)))×ty14)⊕((Unit×(Unit×(Int×(Unit×(Unit×Unit)))))×ty14)):=(fun r5=>(bif(decide (r5.1.2.2.2.2.2.2.1<r5.1.2.2.2.2.2.1))then(grd (okB ((((r5.2.2.2.2.1.length+1)*1)<=140737488355328)/\((r5.2.2.2.2.1.length+1)<=281474976710656))) (grd (okB (((-9223372036854775808)<=(r5.1.2.2.2.2.2.2.1+1))/\((r5.1.2.2.2.2.2.2.1+1)<=9223372036854775807))) (some (Sum.inl (((),((),(r5.1.2.2.1,((),((),(r5.1.2.2.2.2.2.1,((r5.1.2.2.2.2.2.2.1+1),()))))))),(r5.2.1,(r5.2.2.1,(r5.2.2.2.1,((r5.2.2.2.2.1++(false::([]:List Bool))),())))))))))else(some (Sum.inr (((),((),(r5.1.2.2.1,((),((),()))))),(r5.2.1,(r5.2.2.1,(r5.2.2.2.1,(r5.2.2.2.2.1,())))))))))
def go18_l2:((Unit×(Unit×(Int×Unit)))×ty18)->Option (((Unit×(Unit×(Int×Unit)))×ty18)⊕ty10):=(fun r4=>(bif(decide (r4.1.2.2.1<(r4.2.1.blocks.length:Int)))then(grd (okB ((0<=r4.1.2.2.1)/\(r4.1.2.2.1<(r4.2.1.blocks.length:Int)))) (bif(decide (4096<(((r4.2.1.blocks.getD r4.1.2.2.1.toNat Block.z).insts.length:Nat):Int)))then(some (Sum.inr (Sum.inr ((false,()),()))))else(bif(decide ((r4.2.1.blocks.getD r4.1.2.2.1.toNat Block.z).qar<0))then(some (Sum.inr (Sum.inr ((false,()),()))))else(bif(decide (256<(r4.2.1.blocks.getD r4.1.2.2.1.toNat Block.z).qar))then(some (Sum.inr (Sum.inr ((false,()),()))))else(bif(decide ((r4.2.1.blocks.getD r4.1.2.2.1.toNat Block.z).qa9<0))then(some (Sum.inr (Sum.inr ((false,()),()))))else(bif(decide (64<(r4.2.1.blocks.getD r4.1.2.2.1.toNat Block.z).qa9))then(some (Sum.inr (Sum.inr ((false,()),()))))else(bif(decide ((r4.2.1.blocks.getD r4.1.2.2.1.toNat Block.z).line<0))then(some (Sum.inr (Sum.inr ((false,()),()))))else(bif(decide (2147483647<(r4.2.1.blocks.getD r4.1.2.2.1.toNat Block.z).line))then(some (Sum.inr (Sum.inr ((false,()),()))))else(qaj (qap (go18_l3) (((),((),(r4.1.2.2.1,((),((),((r4.2.1.qaa.length:Int),(0,()))))))),(r4.2.1,(r4.2.2.1,((r4.2.1.blocks.getD r4.1.2.2.1.toNat Block.z),(([]:List Bool),())))))) (fun z1=>(qaj (qap (go18_l4) (((),((),(z1.1.2.2.1,((),((),(0,())))))),(z1.2.1,(z1.2.2.1,(z1.2.2.2.1,(z1.2.2.2.2.1,())))))) (fun z2=>(qgu (fun z3=>(qaj (qap (go18_l5) (((),((),(z3.1.2.2.1,((),((),(0,())))))),(z3.2.1,(z3.2.2.1,(z3.2.2.2.1,(z3.2.2.2.2.1,())))))) (fun z4=>(qgu (fun z5=>(qaj (grd (okB ((Fn.ok z5.2.1)/\((Term.ok (Term.mk z5.2.2.2.1.term.kind z5.2.2.2.1.term.cond z5.2.2.2.1.term.to z5.2.2.2.1.term.qax))/\(z5.2.2.2.2.1.length=z5.2.1.qaa.length)))) (some ((Sp.qdm z5.2.1 (Term.mk z5.2.2.2.1.term.kind z5.2.2.2.1.term.cond z5.2.2.2.1.term.to z5.2.2.2.1.term.qax) z5.2.2.2.2.1),()))) (fun r5=>(bif(!r5.1)then(some (Sum.inr (Sum.inr ((false,()),()))))else(grd (okB (((-9223372036854775808)<=(z5.1.2.2.1+1))/\((z5.1.2.2.1+1)<=9223372036854775807))) (some (Sum.inl (((),((),((z5.1.2.2.1+1),()))),(z5.2.1,(z5.2.2.1,())))))))))) (fun z5=>(some (Sum.inr (Sum.inr ((z5.1.1,()),()))))) z4)))) (fun z3=>(some (Sum.inr (Sum.inr ((z3.1.1,()),()))))) z2)))))))))))))else(some (Sum.inr (Sum.inl ((),()))))))
def go18_l1:(ty7×ty18)->Option ((ty7×ty18)⊕((Unit×(Unit×Unit))×ty18)):=(fun r4=>(bif(decide (r4.1.2.2.2.1<r4.1.2.2.1))then(grd (okB ((((r4.2.2.1.length+1)*1)<=140737488355328)/\((r4.2.2.1.length+1)<=281474976710656))) (grd (okB (((-9223372036854775808)<=(r4.1.2.2.2.1+1))/\((r4.1.2.2.2.1+1)<=9223372036854775807))) (some (Sum.inl (((),((),(r4.1.2.2.1,((r4.1.2.2.2.1+1),())))),(r4.2.1,((r4.2.2.1++(false::([]:List Bool))),())))))))else(some (Sum.inr (((),((),())),(r4.2.1,(r4.2.2.1,())))))))
def go18(x0:Fn):(Option (Bool×Unit)):=(qaj (grd (okB ((ByteArray.size x0.name)<=9223372036854775807)) (some ((Sp.ident x0.name),()))) (fun r0=>(bif(!r0.1)then(some (false,()))else(qaj (grd (okB (Fn.ok x0)) (some ((Sp.qjc x0),()))) (fun r1=>(bif(!r1.1)then(some (false,()))else(qaj (grd (okB (x0.qaa.length<=LEN)) (some ((Sp.qaa x0.qaa 65536),()))) (fun r2=>(bif(!r2.1)then(some (false,()))else(qaj (grd (okB (x0.qax.length<=LEN)) (some ((Sp.qaa x0.qax 64),()))) (fun r3=>(bif(!r3.1)then(some (false,()))else(bif(decide ((x0.blocks.length:Int)<1))then(some (false,()))else(bif(decide (1024<(x0.blocks.length:Int)))then(some (false,()))else(qaj (qap (go18_l1) (((),((),((x0.qaa.length:Int),(0,())))),(x0,(([]:List Bool),())))) (fun z0=>(qaj (qap (go18_l2) (((),((),(0,()))),(z0.2.1,(z0.2.2.1,())))) (fun z1=>(qgu (fun z2=>(some (true,()))) (fun z2=>(some (z2.1.1,()))) z1)))))))))))))))))))
theorem run18(x0:Fn):qdd (P:=Try.prog) [c14,c44,c45,c46,c47,c48,c49,c50,c51] Try.f18 ann18 [(0,(.st 6))] [] .b [] (x0,()) ()=go18 x0:=by kernel_rfl
def qdk{σ X:Type}(x:Option σ)(A:σ->X)(B:X):X:=match x with
 |some s=>A s
 |none=>B
def qch{σ α:Type}(g:σ->α->Option σ):List α->σ->Option σ
 |[],s=>some s
 |a::l,s=>match g s a with
  |some s'=>qch g l s'
  |none=>none
theorem qf8{σ β D X:Type}{f:D->Option (D⊕X)}{l:List β}{y0:D}(z:β)(g:σ->β->Option σ)(I:σ->Prop){st:Nat->σ->D}{s0:σ}(hy:y0=st 0 s0)(h0:I s0)(hI:∀s a s',I s->g s a=some s'->I s')(A:σ->X)(B:X)
  (h1:∀i s,i<l.length->I s->f (st i s)=some (qdk (g s (l.getD i z)) (fun s'=>.inl (st (i+1) s')) (.inr B))) (h2:∀s,I s->f (st l.length s)=some (.inr (A s))) :
  qap f y0=some (qdk (qch g l s0) A B):=by
 subst hy;have key:∀(r:List β) (i:Nat) (s:σ),l.drop i=r->i+r.length=l.length->I s->qap f (st i s)=some (qdk (qch g r s) A B):=by
  intro r
  induction r with
  |nil=>
   intro i s hd hi hs;rw[qbt,show i=l.length by simpa using hi,h2 s hs];rfl
  |cons a r ih=>
   intro i s hd hi hs;have hlt:i<l.length:=by simp at hi;omega
   have ha:l.getD i z=a:=by
    have:=congrArg (·[0]?) hd;simp only[List.getElem?_drop,zka,List.getElem?_cons_zero]at this;rw[zi5,this];rfl
   have hdrop:l.drop (i+1)=r:=by
    have:=congrArg (·.drop 1) hd;simpa[List.drop_drop,zkk]using this
   rw[qbt,h1 i s hlt hs,ha];simp only[qch];cases hg:g s a with
   |none=>rfl
   |some s'=>exact ih (i+1) s' hdrop (by simp at hi;omega) (hI s a s' hs hg)
 exact key l 0 s0 rfl (by simp) h0
abbrev DK:=List Bool×List Bool
def Sp.qcy(f:Fn)(s:DK)(v:Int):Option DK:=if Sp.within f v=true/\s.1.getD v.toNat false=false then some (s.1.set v.toNat true,s.2.set v.toNat true)else none
def Sp.qfe(f:Fn)(d:List Bool)(x:qat):Bool:=if Sp.result x.op=true then Sp.within f x.dest&&!(d.getD x.dest.toNat false)else decide (x.dest=-1)
def Sp.mark(s:DK)(x:qat):DK:=if Sp.result x.op=true then(s.1.set x.dest.toNat true,s.2.set x.dest.toNat true)else s
def Sp.qb5(f:Fn)(s:DK)(x:qat):Option DK:=
 if Sp.arity x.op=x.args.length/\Sp.used f x.args s.2=true/\Sp.qfe f s.1 x=true/\Sp.qdp f x=true then some (Sp.mark s x)else none
def Sp.qn6(b:Block):Bool:=
 !decide (4096<(b.insts.length:Int))&&!decide (b.qar<0)&&!decide (256<b.qar)&&!decide (b.qa9<0)&&!decide (64<b.qa9)&&!decide (b.line<0)&&!decide (2147483647<b.line)
def Sp.qcb(f:Fn)(d:List Bool)(b:Block):Option (List Bool):=
 if Sp.qn6 b=true then(match qch (Sp.qcy f) b.params (d,List.replicate f.qaa.length false)with
  |some s=>match qch (Sp.qb5 f) b.insts s with
   |some s'=>if Sp.qdm f b.term s'.2=true then some s'.1 else none
   |none=>none
  | none=>none)else none
def Sp.qm1(f:Fn):Bool:=Sp.ident f.name&&Sp.qjc f&&Sp.qaa f.qaa 65536&&Sp.qaa f.qax 64&&!decide ((f.blocks.length:Int)<1)&&!decide (1024<(f.blocks.length:Int))
def Sp.valid(f:Fn):Bool:=Sp.qm1 f&&(qch (Sp.qcb f) f.blocks (List.replicate f.qaa.length false)).isSome
theorem qii(f:Fn):∀s a s',(s.1.length=f.qaa.length/\s.2.length=f.qaa.length)->Sp.qcy f s a=some s'->(s'.1.length=f.qaa.length/\s'.2.length=f.qaa.length):=by
 intro s a s' hs h;simp only[Sp.qcy]at h;split at h
 ·injection h with h;subst h;simpa using hs
 ·cases h
theorem qim(f:Fn):∀s a s',(s.1.length=f.qaa.length/\s.2.length=f.qaa.length)->Sp.qb5 f s a=some s'->(s'.1.length=f.qaa.length/\s'.2.length=f.qaa.length):=by
 intro s a s' hs h;simp only[Sp.qb5]at h;split at h
 ·injection h with h;subst h;unfold Sp.mark;split<;>simpa using hs
 ·cases h
theorem qhk{σ α:Type}{g:σ->α->Option σ}{I:σ->Prop}(h:∀s a s',I s->g s a=some s'->I s'):∀(l:List α) (s s':σ),I s->qch g l s=some s'->I s'
 |[],s,s',hi,e=>by injection e with e;exact e▸hi
 |a::l,s,s',hi,e=>by
  simp only[qch]at e;cases hg:g s a with
  |none=>rw[hg]at e;cases e
  |some s1=>rw[hg]at e;exact qhk h l s1 s' (h s a s1 hi hg) e
theorem qw7(op:Int):Sp.arity op<=3:=by
 unfold Sp.arity
 repeat' split
 all_goals decide
section
variable {f:Fn} {b:Block} {d k:List Bool} {i:Int}
theorem zeo(f:Fn)(hw:f.qaa.length<=65536):qap go18_l1 (((),(),(f.qaa.length:Int),0,()),f,[],())=some (((),(),()),f,List.replicate f.qaa.length false,()):=by
 unfold go18_l1;refine qcj (st:=fun i=>(((),(),(f.qaa.length:Int),(i:Int),()),f,List.replicate i false,())) rfl f.qaa.length (fun i hi=>?_) ?_
 ·have hl:(List.replicate i false).length=i:=zke;simp(maxSteps:=1000000) (disch:=((try dsimp only);omega)) only[↓gsA,gsB]
  rw[List.replicate_succ']
 ·simp(maxSteps:=1000000) (disch:=((try dsimp only);omega)) only[↓gsA,gsB]
theorem zen(hw:f.qaa.length<=65536):qap go18_l3 (((),(),i,(),(),(f.qaa.length:Int),0,()),f,d,b,[],())=some (((),(),i,(),(),()),f,d,b,List.replicate f.qaa.length false,()):=by
 unfold go18_l3;refine qcj (st:=fun j=>(((),(),i,(),(),(f.qaa.length:Int),(j:Int),()),f,d,b,List.replicate j false,())) rfl f.qaa.length (fun j hj=>?_) ?_
 ·have hl:(List.replicate j false).length=j:=zke;simp(maxSteps:=1000000) (disch:=((try dsimp only);omega)) only[↓gsA,gsB]
  rw[List.replicate_succ']
 ·simp(maxSteps:=1000000) (disch:=((try dsimp only);omega)) only[↓gsA,gsB]
theorem q01(hb:b.ok)(hd:d.length=f.qaa.length)(hk:k.length=f.qaa.length):qap go18_l4 (((),(),i,(),(),0,()),f,d,b,k,()) =
  some (qdk (qch (Sp.qcy f) b.params (d,k)) (fun s=>.inl (((),(),i,(),(),()),f,s.1,b,s.2,())) (.inr ((false,()),()))):=by
 have hp:b.params.length<=LEN:=hb.1.len;rw[qcl]at hp;unfold go18_l4;refine qf8 (l:=b.params) 0 (Sp.qcy f) (fun s=>s.1.length=f.qaa.length/\s.2.length=f.qaa.length) (st:=fun j s=>(((),(),i,(),(),(j:Int),()),f,s.1,b,s.2,())) (s0:=(d,k)) rfl ⟨hd,hk⟩ (qii f) _ _ (fun j s hj hs=>?_) (fun s hs=>?_)
 ·obtain⟨h1,h2⟩:=hs;unfold Sp.qcy;simp(maxSteps:=1000000) (disch:=((try dsimp only);omega)) only[↓gsA,gsB]
  cases hw:Sp.within f (b.params.getD j 0)with
  |false=>simp[qdk]
  |true=>
   obtain⟨q1,q2⟩:=within_iff.1 hw;simp(maxSteps:=1000000) (disch:=((try dsimp only);omega)) only[↓gsA,gsB]
   cases hx:s.1.getD (b.params.getD j 0).toNat false with
   |true=>simp[qdk]
   |false=>
    simp(maxSteps:=1000000) (disch:=((try dsimp only);omega)) only[↓gsA,gsB]
    simp[qdk]
 ·simp(maxSteps:=1000000) (disch:=((try dsimp only);omega)) only[↓gsA,gsB]
theorem zd5{x:qat}{j:Nat}(hj:j<=4096)(hd:d.length=f.qaa.length)(hk:k.length=f.qaa.length)(hp:Sp.qmy f x):go18_j2 go18_j1 (((),(),i,(),(),(j:Int),(),()),f,d,b,k,x,()) =
  some (if Sp.qdp f x=true then .inl (((),(),i,(),(),((j+1:Nat):Int),()),f,(Sp.mark (d,k) x).1,b,(Sp.mark (d,k) x).2,())else .inr (.inr ((false,()),()))):=by
 unfold go18_j2 go18_j1;rw[qak hp];unfold Sp.mark;simp(maxSteps:=1000000) (disch:=((try dsimp only);omega)) only[↓gsA,gsB]
 cases h1:Sp.qdp f x with
 |false=>rfl
 |true=>
  cases h2:Sp.result x.op with
  |false=>
   simp(maxSteps:=1000000) (disch:=((try dsimp only);omega)) only[↓gsA,gsB]
  |true=>
   obtain⟨h3,h4⟩:=hp.2.2 h2;simp(maxSteps:=1000000) (disch:=((try dsimp only);omega)) only[↓gsA,gsB]
theorem q1w(hf:f.ok)(hb:b.ok)(hlim:b.insts.length<=4096)(hd:d.length=f.qaa.length)(hk:k.length=f.qaa.length):qap go18_l5 (((),(),i,(),(),0,()),f,d,b,k,()) =
  some (qdk (qch (Sp.qb5 f) b.insts (d,k)) (fun s=>.inl (((),(),i,(),(),()),f,s.1,b,s.2,())) (.inr ((false,()),()))):=by
 unfold go18_l5;refine qf8 (l:=b.insts) qat.z (Sp.qb5 f) (fun s=>s.1.length=f.qaa.length/\s.2.length=f.qaa.length) (st:=fun j s=>(((),(),i,(),(),(j:Int),()),f,s.1,b,s.2,())) (s0:=(d,k)) rfl ⟨hd,hk⟩ (qim f) _ _ (fun j s hj hs=>?_) (fun s hs=>?_)
 ·obtain⟨h1,h2⟩:=hs;have hx:(b.insts.getD j qat.z).ok:=qgm hb.2.1 _ hj;have hal:(b.insts.getD j qat.z).args.length<=LEN:=hx.2.2.1.len;simp(maxSteps:=1000000) (disch:=((try dsimp only);omega)) only[↓gsA,gsB]
  generalize b.insts.getD j qat.z=x at *;unfold Sp.qb5;by_cases h3:Sp.arity x.op=x.args.length
  rotate_left
  ·simp[h3,qdk]
  cases h4:Sp.used f x.args s.2 with
  |false=>simp[h3,qdk]
  |true=>
   simp(maxSteps:=1000000) (disch:=((try dsimp only);omega)) only[↓gsA,gsB]
   have pre:(Sp.result x.op=true->0<=x.dest/\x.dest<f.qaa.length)->Sp.qmy f x:=fun hr=>⟨by have:=qw7 x.op;omega,fun n hn=>⟨(qf9 h4 hn).1,(qf9 h4 hn).2.1⟩,hr⟩
   cases h5:Sp.result x.op with
   |false=>
    simp(maxSteps:=1000000) (disch:=((try dsimp only);omega)) only[↓gsA,gsB]
    rw[zd5 (by omega) h1 h2 (pre (fun h=>by rw[h5]at h;cases h))]
    by_cases h6:x.dest=-1
    ·cases h7:Sp.qdp f x<;>simp[Sp.qfe,h5,h6,h3,qdk,h7]
    ·simp[Sp.qfe,h5,h6,qdk]
   |true=>
    cases h6:Sp.within f x.dest with
    |false=>simp[Sp.qfe,h5,h6,qdk]
    |true=>
     obtain⟨q1,q2⟩:=within_iff.1 h6;simp(maxSteps:=1000000) (disch:=((try dsimp only);omega)) only[↓gsA,gsB]
     rw[zd5 (by omega) h1 h2 (pre (fun _=>⟨q1,q2⟩))];cases h8:s.1.getD x.dest.toNat false with
     |true=>
      rw[zi5]at h8;simp[Sp.qfe,h5,h6,qdk,h8]
     |false=>
      rw[zi5]at h8;cases h7:Sp.qdp f x<;>simp[Sp.qfe,h5,h6,h3,qdk,h7,h8]
 ·simp(maxSteps:=1000000) (disch:=((try dsimp only);omega)) only[↓gsA,gsB]
theorem quw(f:Fn):∀d b d',d.length=f.qaa.length->Sp.qcb f d b=some d'->d'.length=f.qaa.length:=by
 intro d b d' hd h;simp only[Sp.qcb]at h;split at h
 ·split at h
  ·rename_i s1 h1;have i1:=qhk (qii f) _ _ _ ⟨hd,zke⟩ h1;split at h
   ·rename_i s2 h2;have i2:=qhk (qim f) _ _ _ i1 h2;split at h
    ·injection h with h;subst h;exact i2.1
    ·cases h
   ·cases h
  ·cases h
 ·cases h
theorem q3e(hf:f.ok)(hw:f.qaa.length<=65536)(hbl:f.blocks.length<=1024):qap go18_l2 (((),(),0,()),f,List.replicate f.qaa.length false,()) =
  some (qdk (qch (Sp.qcb f) f.blocks (List.replicate f.qaa.length false)) (fun _=>.inl ((),())) (.inr ((false,()),()))):=by
 unfold go18_l2;refine qf8 (l:=f.blocks) Block.z (Sp.qcb f) (fun d=>d.length=f.qaa.length) (st:=fun j d=>(((),(),(j:Int),()),f,d,())) rfl zke (quw f) _ _ (fun j d hj hd=>?_) (fun s hs=>?_)
 ·have hbk:(f.blocks.getD j Block.z).ok:=Fn.qvy hf hj;simp(maxSteps:=1000000) (disch:=((try dsimp only);omega)) only[↓gsA,gsB]
  generalize f.blocks.getD j Block.z=b at *;unfold Sp.qcb Sp.qn6;by_cases a1:4096<(b.insts.length:Int)
  ·simp[a1,qdk]
  by_cases a2:b.qar<0
  ·simp[a2,qdk,a1]
  by_cases a3:256<b.qar
  ·simp[a3,qdk,a1,a2]
  by_cases a4:b.qa9<0
  ·simp[a4,qdk,a1,a2,a3]
  by_cases a5:64<b.qa9
  ·simp[a5,qdk,a1,a2,a3,a4]
  by_cases a6:b.line<0
  ·simp[a6,qdk,a1,a2,a3,a4,a5]
  by_cases a7:2147483647<b.line
  ·simp[a7,qdk,a1,a2,a3,a4,a5,a6]
  rw[if_neg a1,if_neg a2,if_neg a3,if_neg a4,if_neg a5,if_neg a6,if_neg a7];have hlim:(!decide (4096<(b.insts.length:Int))&&!decide (b.qar<0)&&!decide (256<b.qar)&&!decide (b.qa9<0)&&!decide (64<b.qa9)&&!decide (b.line<0)&&!decide (2147483647<b.line))=true:=by
   simp[a1,a2,a3,a4,a5,a6,a7]
  rw[if_pos hlim];refine qa5 (zen hw) ?_;refine qa5 (q01 hbk hd zke) ?_;cases h1:qch (Sp.qcy f) b.params (d,List.replicate f.qaa.length false)with
  |none=>rfl
  |some s1=>
   have i1:=qhk (qii f) _ _ _ ⟨hd,zke⟩ h1;show qgu _ _ (Sum.inl _)=_;rw[qdb];refine qa5 (q1w hf hbk (show b.insts.length<=4096 by omega) i1.1 i1.2) ?_;cases h2:qch (Sp.qb5 f) b.insts s1 with
   |none=>simp only[h2,qdk,qfc]
   |some s2=>
    have i2:=qhk (qim f) _ _ _ i1 h2;simp only[h2,qdk,qdb];rw[qak ⟨hf,hbk.2.2.1,i2.2⟩];show(bif Sp.qdm f b.term s2.2 then _ else _)=_;cases h3:Sp.qdm f b.term s2.2 with
    |false=>rfl
    |true=>
     simp(maxSteps:=1000000) (disch:=((try dsimp only);omega)) only[↓gsA,gsB]
 ·simp(maxSteps:=1000000) (disch:=((try dsimp only);omega)) only[↓gsA,gsB]
theorem ok18(f:Fn)(hf:f.ok):go18 f=some (Sp.valid f,()):=by
 have hwl:f.qaa.length<=LEN:=hf.2.1.len;have hrl:f.qax.length<=LEN:=hf.2.2.2.2.1.len;have hns:f.name.size<=9223372036854775807:=hf.1;unfold go18;rw[qak hns,qak hf,qak hwl,qak hrl];unfold Sp.valid Sp.qm1;simp(maxSteps:=1000000) (disch:=((try dsimp only);omega)) only[↓gsA,gsB]
 cases h1:Sp.ident f.name with
 |false=>rfl
 |true=>
  cases h2:Sp.qjc f with
  |false=>rfl
  |true=>
   cases h3:Sp.qaa f.qaa 65536 with
   |false=>rfl
   |true=>
    cases h4:Sp.qaa f.qax 64 with
    |false=>rfl
    |true=>
     have hw:f.qaa.length<=65536:=by
      simp only[Sp.qaa,zi4,decide_eq_true_eq]at h3;omega
     by_cases h5:(f.blocks.length:Int)<1
     ·simp(maxSteps:=1000000) (disch:=((try dsimp only);omega)) only[↓gsA,gsB]
      rw[decide_eq_true h5];rfl
     by_cases h6:1024<(f.blocks.length:Int)
     ·simp(maxSteps:=1000000) (disch:=((try dsimp only);omega)) only[↓gsA,gsB]
      rw[decide_eq_true h6,decide_eq_false h5];rfl
     simp(maxSteps:=1000000) (disch:=((try dsimp only);omega)) only[↓gsA,gsB]
     refine qa5 (zeo f hw) ?_;refine qa5 (q3e hf hw (show f.blocks.length<=1024 by omega)) ?_;rw[decide_eq_false h5,decide_eq_false h6];cases qch (Sp.qcb f) f.blocks (List.replicate f.qaa.length false)<;>rfl
end
def c18:Ctr Try.prog:=qbl 18 Try.f18 Try.func18 [c14,c44,c45,c46,c47,c48,c49,c50,c51] ann18 [(0,(.st 6))] [] .b [] (fun x _=>grd (okB x.1.ok) (some (Sp.valid x.1,()))) (fun x _ r h=>FO (run18 x.1) (ok18 x.1) h)
end
end Go.Abs
namespace Go.Abs
open Go Go.Proofs
noncomputable section
def q61:List (Nat×Sh):=[(0,(.i .i64)),(1,(.ptr 0 0)),(2,(.ptr 1 0)),(3,(.ptr 2 0)),(4,(.ptr 3 0))]
def q5m:List OSh:=[(.cells 69 [(.full 4)]),(.cells 25 [(.full 5)]),(.box 30 (.st 6)),(.cells 120 [(.fn 101 [(.ptr 0 0),(.ptr 1 0),(.ptr 2 0),(.ptr 3 0)])]),(.lst 4 .bool),(.lst 3 (.int .i64))]
def q9g:List OSh:=[(.cells 69 [(.full 4)]),(.cells 25 [(.full 6)]),(.box 30 (.st 6)),(.cells 120 [(.fn 101 [(.ptr 0 0),(.ptr 1 0),(.ptr 2 0),(.ptr 3 0)])]),(.lst 4 .bool),.dead,(.lst 3 (.int .i64))]
@[reducible] def zb2:Type:=(Int×(Unit×(Unit×(Unit×(Unit×Unit)))))->((Unit×Unit)×((Unit×Unit)×(Fn×(((Unit×(Unit×(Unit×(Unit×Unit))))×Unit)×(List Bool×(List Int×Unit))))))->Option (Unit×((Unit×Unit)×((Unit×Unit)×(Fn×(((Unit×(Unit×(Unit×(Unit×Unit))))×Unit)×(List Bool×(Unit×(List Int×Unit))))))))
def zbp(G:zb2):Prop:=∀(x:DT q61) (y:DO q5m) r,G x y=some r->CT Try.prog 101 (qdf q61 x) (mkH 6 q5m y) (fun v H'=>v=mkE (.tup []) r.1/\H'=mkH 6 q9g r.2)
def zgz(G:zb2)(h:zbp G):Ctr Try.prog:=⟨101,inferInstance,q61,q5m,.tup [],q9g,G,h⟩
end
end Go.Abs
namespace Go.Abs
open Go Go.Proofs
noncomputable section
def ann101:Ann:=(.join ⟨[(0,(.i .i64)),(1,(.ptr 0 0)),(2,(.ptr 1 0)),(3,(.ptr 2 0)),(4,(.ptr 3 0))],[(.cells 69 [(.full 4)]),(.cells 25 [(.full 5)]),(.box 30 (.st 6)),(.cells 120 [(.fn 101 [(.ptr 0 0),(.ptr 1 0),(.ptr 2 0),(.ptr 3 0)])]),(.lst 4 .bool),(.lst 3 (.int .i64))]⟩ (.seq .o (.cond .o .o)) (.seq .o (.seq .o (.seq .o (.block (.loop sh53 [((.exit 0),⟨[],sh64⟩)] (.seq .o (.join sh53 (.cond .o .o) (.join sh53 (.block (.seq .o .o)) .o)))))))))
def go101_l1(G:zb2):((Unit×((List Edge)×(Int×(Int×Unit))))×ty5)->Option (((Unit×((List Edge)×(Int×(Int×Unit))))×ty5)⊕(Unit×ty5)):=(fun r0=>(bif(decide (r0.1.2.2.2.1<r0.1.2.2.1))then(grd (okB ((0<=r0.1.2.2.2.1)/\(r0.1.2.2.2.1<(r0.1.2.1.length:Int)))) (qaj (G ((r0.1.2.1.getD r0.1.2.2.2.1.toNat Edge.z).block,((),((),((),((),()))))) (((),()),(((),()),(r0.2.2.2.1,((((),((),((),((),())))),()),(r0.2.2.2.2.2.1,(r0.2.2.2.2.2.2.2.1,()))))))) (fun r1=>(grd ((decide ((1:Nat)=1))&&((decide ((1:Nat)=1))&&((decide (1=1))&&((decide ((1:Nat)=1))&&((decide (r1.2.2.2.2.2.1.length=r0.2.2.2.2.2.1.length))&&true))))) (grd (okB (((-9223372036854775808)<=(r0.1.2.2.2.1+1))/\((r0.1.2.2.2.1+1)<=9223372036854775807))) (some (Sum.inl (((),(r0.1.2.1,(r0.1.2.2.1,((r0.1.2.2.2.1+1),())))),(((),()),(((),()),(r1.2.2.2.1,((((),((),((),((),())))),()),(r1.2.2.2.2.2.1,((),(r1.2.2.2.2.2.2.2.1,())))))))))))))))else(some (Sum.inr ((),(((),()),(((),()),(r0.2.2.2.1,((((),((),((),((),())))),()),(r0.2.2.2.2.2.1,((),(r0.2.2.2.2.2.2.2.1,()))))))))))))
def go101(G:zb2)(x0:Int)(y0:(Unit×Unit))(y1:(Unit×Unit))(y2:Fn)(y3:((Unit×ty9)×Unit))(y4:(List Bool))(y5:(List Int)):(Option (Unit×ty5)):=(bif(decide (x0<0))then(some ((),(((),()),(((),()),(y2,((((),((),((),((),())))),()),(y4,((),(y5,())))))))))else(bif(decide ((y4.length:Int)<=x0))then(some ((),(((),()),(((),()),(y2,((((),((),((),((),())))),()),(y4,((),(y5,())))))))))else(grd (okB ((0<=x0)/\(x0<(y4.length:Int)))) (grd (Nat.blt x0.toNat y4.length) (bif(y4.getD x0.toNat false)then(some ((),(((),()),(((),()),(y2,((((),((),((),((),())))),()),(y4,((),(y5,())))))))))else(grd (okB ((0<=x0)/\(x0<(y4.length:Int)))) (grd (Nat.blt x0.toNat y4.length) (grd (okB ((((y5.length+1)*8)<=140737488355328)/\((y5.length+1)<=281474976710656))) (grd (okB ((0<=x0)/\(x0<(y2.blocks.length:Int)))) (qaj (qap (go101_l1 G) (((),((y2.blocks.getD x0.toNat Block.z).term.to,((((y2.blocks.getD x0.toNat Block.z).term.to.length:Nat):Int),(0,())))),(((),()),(((),()),(y2,((((),((),((),((),())))),()),((y4.set x0.toNat true),((),((y5++(x0::([]:List Int))),()))))))))) (fun z0=>(some ((),(((),()),(((),()),(z0.2.2.2.1,((((),((),((),((),())))),()),(z0.2.2.2.2.2.1,((),(z0.2.2.2.2.2.2.2.1,()))))))))))))))))))))
theorem run101(G:zb2)(hG:(zbp G))(x0:Int)(y0:(Unit×Unit))(y1:(Unit×Unit))(y2:Fn)(y3:((Unit×(Unit×(Unit×(Unit×Unit))))×Unit))(y4:(List Bool))(y5:(List Int)):qdd (P:=Try.prog) [zgz G hG] Try.f101 ann101 [(0,(.i .i64)),(1,(.ptr 0 0)),(2,(.ptr 1 0)),(3,(.ptr 2 0)),(4,(.ptr 3 0))] [(.cells 69 [(.full 4)]),(.cells 25 [(.full 5)]),(.box 30 (.st 6)),(.cells 120 [(.fn 101 [(.ptr 0 0),(.ptr 1 0),(.ptr 2 0),(.ptr 3 0)])]),(.lst 4 .bool),(.lst 3 (.int .i64))] (.tup []) [(.cells 69 [(.full 4)]),(.cells 25 [(.full 6)]),(.box 30 (.st 6)),(.cells 120 [(.fn 101 [(.ptr 0 0),(.ptr 1 0),(.ptr 2 0),(.ptr 3 0)])]),(.lst 4 .bool),.dead,(.lst 3 (.int .i64))] (x0,((),((),((),((),()))))) (y0,(y1,(y2,(y3,(y4,(y5,()))))))=go101 G x0 y0 y1 y2 y3 y4 y5:=by kernel_rfl
def zfa:Nat->zb2
 |0=>fun _ _=>none
 |n+1=>fun x y=>go101 (zfa n) x.1 y.1 y.2.1 y.2.2.1 y.2.2.2.1 y.2.2.2.2.1 y.2.2.2.2.2.1
theorem q72:∀n,zbp (zfa n)
 |0=>fun x y r h=>by cases h
 |n+1=>fun x y r h=>by
  have h1:=run101 (zfa n) (q72 n) x.1 y.1 y.2.1 y.2.2.1 y.2.2.2.1 y.2.2.2.2.1 y.2.2.2.2.2.1;exact CT.of Try.func101 (h1.trans h)
def Sp.visit(f:Fn):Nat->Int->List Bool×List Int->List Bool×List Int
 |0,_,s=>s
 |n+1,b,s=>if b<0\/(s.1.length:Int)<=b then s else if s.1.getD b.toNat false then s else
   (f.blocks.getD b.toNat Block.z).term.to.foldl (fun s e=>Sp.visit f n e.block s) (s.1.set b.toNat true,s.2++[b])
def qck(l:List Bool):Nat:=l.count false
theorem qjx{l:List Bool}{i:Nat}(h:i<l.length)(hf:l.getD i false=false):qck (l.set i true)+1=qck l:=by
 induction l generalizing i with
 |nil=>simp at h
 |cons a l ih=>
  cases i with
  |zero=>
   have:a=false:=by simpa using hf
   subst this;simp[qck]
  |succ i=>
   have h1:=ih (i:=i) (by simpa using h) (by simpa using hf);simp only[qck,List.set_cons_succ,List.count_cons]at h1 ⊢;omega
theorem qhj{α β:Type}(P:β->Prop)(g:β->α->β)(h:∀s a,P s->P (g s a)):∀(l:List α) (s:β),P s->P (l.foldl g s)
 |[],_,hs=>hs
 |a::l,s,hs=>qhj P g h l (g s a) (h s a hs)
theorem qg3(f:Fn):∀(n:Nat) (b:Int) (s:List Bool×List Int),(Sp.visit f n b s).1.length=s.1.length/\(Sp.visit f n b s).2.length+qck (Sp.visit f n b s).1=s.2.length+qck s.1/\qck (Sp.visit f n b s).1<=qck s.1
 |0,b,s=>⟨rfl,rfl,zi7 _⟩
 |n+1,b,s=>by
  unfold Sp.visit;split
  ·exact⟨rfl,rfl,zi7 _⟩
  ·rename_i hb;split
   ·exact⟨rfl,rfl,zi7 _⟩
   ·rename_i hs;have hlt:b.toNat<s.1.length:=by omega
    have hu:=qjx hlt (by simpa using hs);refine qhj (fun r:List Bool×List Int=>r.1.length=s.1.length/\r.2.length+qck r.1=s.2.length+qck s.1/\qck r.1<=qck s.1) _ (fun r e hr=>?_) _ _ ⟨by simp,by simp only[zjh,List.length_singleton];omega,by simp only;omega⟩
    obtain⟨h1,h2,h3⟩:=qg3 f n e.block r;exact⟨h1.trans hr.1,h2.trans hr.2.1,zj6 h3 hr.2.2⟩
def qxs(f:Fn)(s:List Bool×List Int):(Unit×((Unit×Unit)×((Unit×Unit)×(Fn×(((Unit×(Unit×(Unit×(Unit×Unit))))×Unit)×((List Bool)×(Unit×((List Int)×Unit)))))))):=
 ((),(((),()),(((),()),(f,((((),((),((),((),())))),()),(s.1,((),(s.2,()))))))))
theorem qiz{α:Type}{l:List α}{k:Nat}(h:k<l.length)(z:α):l.take (k+1)=l.take k++[l.getD k z]:=by
 rw[zld h,zi5,zjc h,zjv]
theorem q3u(f:Fn)(hf:f.ok):∀(n:Nat) (b:Int) (s:List Bool×List Int),qck s.1<n->s.1.length=f.blocks.length->s.2.length+qck s.1<=f.blocks.length ->
  zfa n (b,((),((),((),((),()))))) (((),()),(((),()),(f,((((),((),((),((),())))),()),(s.1,(s.2,()))))))=some (qxs f (Sp.visit f n b s))
 |0,b,s,h,_,_=>by omega
 |n+1,b,s,h,hl,ho=>by
  have hB:=hf.2.2.2.2.2.1;simp only[reachBytes]at hB;show go101 (zfa n) b ((),()) ((),()) f (((),((),((),((),())))),()) s.1 s.2=_;unfold go101 Sp.visit;by_cases h1:b<0
  ·rw[if_pos (.inl h1)];simp only[decide_eq_true h1,cond_true];rfl
  ·by_cases h2:(s.1.length:Int)<=b
   ·rw[if_pos (.inr h2)];simp only[decide_eq_false h1,cond_false,decide_eq_true h2,cond_true];rfl
   ·rw[if_neg (by omega)];have hlt:b.toNat<s.1.length:=by omega
    have g1:(0:Int)<=b/\b<((s.1.length:Nat):Int):=by omega
    simp only[decide_eq_false h1,cond_false,decide_eq_false h2,qak g1,qds hlt];cases h3:s.1.getD b.toNat false with
    |true=>simp only[cond_true,if_true];rfl
    |false=>
     simp only[cond_false,zjw,if_false];have hu:=qjx hlt h3;have g2:(s.2.length+1)*(8:Nat)<=(140737488355328:Nat)/\s.2.length+1<=(281474976710656:Nat):=by omega
     have g3:(0:Int)<=b/\b<((f.blocks.length:Nat):Int):=by omega
     rw[qak g2,qak g3];have hbk:Block.ok (f.blocks.getD b.toNat Block.z):=qgm hf.2.2.2.2.2 Block.z (by omega);have htl:=hbk.2.2.1.2.2.1.len;rw[qcl]at htl;generalize hto:(f.blocks.getD b.toNat Block.z).term.to=to at htl ⊢;refine qa5 (qcj (st:=fun k=>(((),(to,(((to.length:Nat):Int),((k:Int),())))),(((),()),(((),()),(f,((((),((),((),((),())))),()),(((to.take k).foldl (fun s e=>Sp.visit f n e.block s) (s.1.set b.toNat true,s.2++[b])).1,((),(((to.take k).foldl (fun s e=>Sp.visit f n e.block s) (s.1.set b.toNat true,s.2++[b])).2,()))))))))) rfl to.length (X0:=qxs f (to.foldl (fun s e=>Sp.visit f n e.block s) (s.1.set b.toNat true,s.2++[b]))) (fun k hk=>?_) ?_) rfl
     ·have inv:=qhj (fun r:List Bool×List Int=>r.1.length=s.1.length/\r.2.length+qck r.1=s.2.length+qck s.1/\qck r.1<=qck (s.1.set b.toNat true)) (fun s e=>Sp.visit f n e.block s) (fun r e hr=>by
       obtain⟨q1,q2,q3⟩:=qg3 f n e.block r;exact⟨q1.trans hr.1,q2.trans hr.2.1,zj6 q3 hr.2.2⟩) (to.take k) (s.1.set b.toNat true,s.2++[b]) ⟨by simp,by simp only[zjh,List.length_singleton];omega,zi7 _⟩
      obtain⟨i1,i2,i3⟩:=inv;rw[qiz hk Edge.z,List.foldl_append];generalize (to.take k).foldl (fun s e=>Sp.visit f n e.block s) (s.1.set b.toNat true,s.2++[b])=r at i1 i2 i3 ⊢;have rec_:=q3u f hf n (to.getD k Edge.z).block r (by omega) (by omega) (by omega);obtain⟨q1,_,_⟩:=qg3 f n (to.getD k Edge.z).block r;unfold go101_l1;simp only[zja];have g4:(0:Int)<=(k:Int)/\(k:Int)<((to.length:Nat):Int):=by omega
      have g5:(k:Int)<((to.length:Nat):Int):=by omega
      rw[decide_eq_true g5,cond_true,qak g4];refine qa5 rec_ ?_;simp only[qxs,q1,decide_true,zjq,qba];rw[qak (by omega)];rfl
     ·unfold go101_l1;simp only[List.take_length];rw[decide_eq_false (by omega),cond_false];rfl
def c101:Ctr Try.prog:=⟨101,inferInstance,q61,q5m,.tup [],q9g,fun x y=>grd (okB (Fn.ok y.2.2.1/\y.2.2.2.2.1.length=y.2.2.1.blocks.length/\y.2.2.2.2.2.1.length+qck y.2.2.2.2.1<=y.2.2.1.blocks.length)) (some (qxs y.2.2.1 (Sp.visit y.2.2.1 (qck y.2.2.2.2.1+1) x.1 (y.2.2.2.2.1,y.2.2.2.2.2.1)))),
 fun x y r h=>by
  obtain⟨h1,h2⟩:=qbs h;obtain⟨g1,g2,g3⟩:=qdo h1;injection h2 with h2;subst h2;exact q72 (qck y.2.2.2.2.1+1) x y _ (q3u y.2.2.1 g1 (qck y.2.2.2.2.1+1) x.1 (y.2.2.2.2.1,y.2.2.2.2.2.1) (Nat.lt_succ_self _) g2 g3)⟩
end
end Go.Abs
namespace Go.Abs
open Go Go.Proofs
noncomputable section
def ann66:Ann:=(.seq .o (.seq .o (.seq .o (.seq .o (.seq .o (.seq .o (.seq .o .o)))))))
def go66(x0:Fn):(Option (Unit×((List Int)×Unit))):=(grd (okB (((x0.blocks.length:Int)=(x0.blocks.length:Int))/\((0<=(x0.blocks.length:Int))/\((((x0.blocks.length:Int)*((1:Nat):Int))<=140737488355328)/\((x0.blocks.length:Int)<=281474976710656))))) (qaj (grd (okB ((Fn.ok x0)/\(((@List.replicate Bool (x0.blocks.length:Int).toNat false).length=x0.blocks.length)/\((0+(qck (@List.replicate Bool (x0.blocks.length:Int).toNat false)))<=x0.blocks.length)))) (some (qxs x0 (Sp.visit x0 ((qck (@List.replicate Bool (x0.blocks.length:Int).toNat false))+1) 0 ((@List.replicate Bool (x0.blocks.length:Int).toNat false),([]:List Int)))))) (fun r0=>(grd ((decide ((1:Nat)=1))&&((decide ((1:Nat)=1))&&((decide (1=1))&&((decide ((1:Nat)=1))&&((decide (r0.2.2.2.2.2.1.length=(@List.replicate Bool (x0.blocks.length:Int).toNat false).length))&&true))))) (some ((),(r0.2.2.2.2.2.2.2.1,())))))))
theorem run66(x0:Fn):qdd (P:=Try.prog) [c101] Try.f66 ann66 [(0,(.st 6))] [] (.full 0) [(.lst 3 (.int .i64))] (x0,()) ()=go66 x0:=by kernel_rfl
def Sp.order(f:Fn):List Int:=(Sp.visit f (f.blocks.length+1) 0 (List.replicate f.blocks.length false,[])).2
theorem qjy(n:Nat):qck (List.replicate n false)=n:=by simp[qck]
theorem ok66(f:Fn)(h:f.ok):go66 f=some ((),Sp.order f,()):=by
 have hB:=h.2.2.2.2.2.1;simp only[reachBytes]at hB;unfold go66;simp only[zja,qjy,zke]
 rw[qak (by refine⟨?_,?_,?_,?_⟩<;>first|trivial|omega),qak (by refine⟨h,?_,?_⟩<;>first|trivial|omega)]
 simp only[qaf,qxs];have e:=(qg3 f (f.blocks.length+1) 0 (List.replicate f.blocks.length false,[])).1;simp only[zke]at e;simp only[e,decide_true,zjq,qba];rfl
def c66:Ctr Try.prog:=qbl 66 Try.f66 Try.func66 [c101] ann66 [(0,(.st 6))] [] (.full 0) [(.lst 3 (.int .i64))] (fun x _=>grd (okB (Fn.ok x.1)) (some ((),Sp.order x.1,()))) (fun x _ r h=>FO (run66 x.1) (ok66 x.1) h)
end
end Go.Abs
namespace Go.Abs
open Go Go.Proofs
noncomputable section
def ann67:Ann:=(.seq .o (.join sh54 (.seq .o (.cond (.seq .o .o) .o)) (.join sh54 (.seq .o (.seq .o (.cond (.seq .o .o) .o))) (.seq .o (.seq (.x ⟨false,false,false,false,[],[],[0,0,2,0,14,30,62,127,255],(.rd 0 (.qu [1,2,3,4,5] (.on 6 (.on 7 (.on 8 .nil)))))⟩) (.seq .o .o))))))
def go67(x0:Int)(y0:(ByteArray×(Unit×(Unit×ty9))))(y1:(List Int))(y2:(List Arr))(y3:(List qbd))(y4:(List Int))(y5:(List qac))(y6:(Unit×Unit))(y7:(qb1->(Option Int)))(y8:(Unit×Unit))(y9:(List Int)):(Option (Int×ty3)):=(bif(decide (x0<0))then(some (x0,((y0.1,((),((),((),((),((),())))))),(y1,(y2,(y3,(y4,(y5,(((),()),(y7,(((),()),((),(y9,())))))))))))))else(bif(decide ((y1.length:Int)<=x0))then(some (x0,((y0.1,((),((),((),((),((),())))))),(y1,(y2,(y3,(y4,(y5,(((),()),(y7,(((),()),((),(y9,())))))))))))))else(bif(@Option.isSome Int (y7 (qb1.i x0)))then(some ((@Option.getD Int (y7 (qb1.i x0)) 0),((y0.1,((),((),((),((),((),())))))),(y1,(y2,(y3,(y4,(y5,(((),()),(y7,(((),()),((),(y9,())))))))))))))else(grd (okB ((0<=x0)/\(x0<(y1.length:Int)))) (grd (Nat.blt x0.toNat y1.length) (grd (okB ((((y9.length+1)*8)<=140737488355328)/\((y9.length+1)<=281474976710656))) (some ((@Option.getD Int (@qij Int y7 (qb1.i x0) (y9.length:Int) (qb1.i x0)) 0),((y0.1,((),((),((),((),((),())))))),(y1,(y2,(y3,(y4,(y5,(((),()),((@qij Int y7 (qb1.i x0) (y9.length:Int)),(((),()),((),((y9++((y1.getD x0.toNat 0)::([]:List Int))),())))))))))))))))))))
theorem run67(x0:Int)(y0:(ByteArray×(Unit×(Unit×(Unit×(Unit×(Unit×Unit)))))))(y1:(List Int))(y2:(List Arr))(y3:(List qbd))(y4:(List Int))(y5:(List qac))(y6:(Unit×Unit))(y7:(qb1->(Option Int)))(y8:(Unit×Unit))(y9:(List Int)):qdd (P:=Try.prog) [] Try.f67 ann67 [(0,(.i .i64)),(1,(.ptr 0 0)),(2,(.ptr 6 0)),(3,(.ptr 8 0))] [(.cells 30 [.s,(.full 1),(.full 2),(.full 3),(.full 4),(.full 5)]),(.lst 3 (.int .i64)),(.lst 53 (.st 4)),(.lst 55 (.st 5)),(.lst 3 (.int .i64)),(.lst 41 (.st 14)),(.cells 91 [(.qca 7)]),(.mp false (.int .i64)),(.cells 25 [(.full 9)]),(.lst 3 (.int .i64))] (.i .i64) [(.cells 30 [.s,(.full 1),(.full 2),(.full 3),(.full 4),(.full 5)]),(.lst 3 (.int .i64)),(.lst 53 (.st 4)),(.lst 55 (.st 5)),(.lst 3 (.int .i64)),(.lst 41 (.st 14)),(.cells 91 [(.qca 7)]),(.mp false (.int .i64)),(.cells 25 [(.full 10)]),.dead,(.lst 3 (.int .i64))] (x0,((),((),((),())))) (y0,(y1,(y2,(y3,(y4,(y5,(y6,(y7,(y8,(y9,()))))))))))=go67 x0 y0 y1 y2 y3 y4 y5 y6 y7 y8 y9:=by kernel_rfl
abbrev RS:=(qb1->Option Int)×List Int
def Sp.num(W:List Int)(v:Int)(s:RS):Int×RS:=if v<0\/(W.length:Int)<=v then(v,s)else match s.1 (.i v)with
 |some n=>(n,s)
 |none=>((s.2.length:Int),qij s.1 (.i v) (s.2.length:Int),s.2++[W.getD v.toNat 0])
def room(n:Nat):Bool:=Nat.blt n 1073741824
theorem q9f{n:Nat}(h:room n=true):okB ((n+1)*8<=140737488355328/\n+1<=281474976710656)=true:=by
 have:n<1073741824:=zi8 h;exact qkp (by omega)
abbrev F67:=ByteArray×(Unit×(Unit×(Unit×(Unit×(Unit×Unit)))))
abbrev B67:=F67×(List Int×(List Arr×(List qbd×(List Int×(List qac×((Unit×Unit)×((qb1->Option Int)×((Unit×Unit)×(List Int×Unit)))))))))
abbrev C67:=F67×(List Int×(List Arr×(List qbd×(List Int×(List qac×((Unit×Unit)×((qb1->Option Int)×((Unit×Unit)×(Unit×(List Int×Unit))))))))))
def q88(y:B67):RS:=(y.2.2.2.2.2.2.2.1,y.2.2.2.2.2.2.2.2.2.1)
def zgs(y:B67)(s:RS):C67:=((y.1.1,((),((),((),((),((),())))))),(y.2.1,(y.2.2.1,(y.2.2.2.1,(y.2.2.2.2.1,(y.2.2.2.2.2.1,(((),()),(s.1,(((),()),((),(s.2,())))))))))))
def q7t(v:Int)(y:B67):Option (Int×C67):=grd (room (q88 y).2.length) (some ((Sp.num y.2.1 v (q88 y)).1,zgs y (Sp.num y.2.1 v (q88 y)).2))
theorem ok67(v:Int)(y:B67){r:Int×C67}(h:q7t v y=some r):go67 v y.1 y.2.1 y.2.2.1 y.2.2.2.1 y.2.2.2.2.1 y.2.2.2.2.2.1 y.2.2.2.2.2.2.1 y.2.2.2.2.2.2.2.1 y.2.2.2.2.2.2.2.2.1 y.2.2.2.2.2.2.2.2.2.1=some r:=by
 unfold q7t at h;obtain⟨hr,h⟩:=qbs h;injection h with h;subst h;obtain⟨⟨nm,u1⟩,W,a,t,rt,bl,u2,m,u3,w,u4⟩:=y;simp only[q88]at hr ⊢;unfold go67 Sp.num zgs;simp only;by_cases h1:v<0
 ·simp only[h1,true_or,if_true,decide_true,cond_true]
 ·by_cases h2:(W.length:Int)<=v
  ·simp only[h1,h2,or_true,if_true,decide_true,decide_false,cond_true,cond_false]
  ·simp only[h1,h2,or_false,if_false,decide_false,cond_false];cases hm:m (.i v)with
   |some n=>simp
   |none=>
    have e1:okB (0<=v/\v<((W.length:Nat):Int))=true:=qkp ⟨by omega,by omega⟩;have e2:Nat.blt v.toNat W.length=true:=qdr (by omega);have e3:qij m (.i v) (w.length:Int) (.i v)=some (w.length:Int):=by simp[qij]
    simp only[Option.isSome_none,cond_false,e1,e2,q9f hr,e3,qba,zjv]
def c67:Ctr Try.prog:=qbl 67 Try.f67 Try.func67 [] ann67 [(0,(.i .i64)),(1,(.ptr 0 0)),(2,(.ptr 6 0)),(3,(.ptr 8 0))] [(.cells 30 [.s,(.full 1),(.full 2),(.full 3),(.full 4),(.full 5)]),(.lst 3 (.int .i64)),(.lst 53 (.st 4)),(.lst 55 (.st 5)),(.lst 3 (.int .i64)),(.lst 41 (.st 14)),(.cells 91 [(.qca 7)]),(.mp false (.int .i64)),(.cells 25 [(.full 9)]),(.lst 3 (.int .i64))] (.i .i64) [(.cells 30 [.s,(.full 1),(.full 2),(.full 3),(.full 4),(.full 5)]),(.lst 3 (.int .i64)),(.lst 53 (.st 4)),(.lst 55 (.st 5)),(.lst 3 (.int .i64)),(.lst 41 (.st 14)),(.cells 91 [(.qca 7)]),(.mp false (.int .i64)),(.cells 25 [(.full 10)]),.dead,(.lst 3 (.int .i64))] (fun x y=>q7t x.1 y) (fun x y r h=>(run67 _ _ _ _ _ _ _ _ _ _ _).trans (ok67 x.1 y h))
end
end Go.Abs
namespace Go.Abs
open Go Go.Proofs
noncomputable section
theorem qe4{σ α:Type}{g:σ->α->Option σ}:∀(l:List α) (s s':σ),qch g l s=some s'->∀a∈l,∃s1 s2,g s1 a=some s2
 |[],s,s',h,a,ha=>by cases ha
 |b::l,s,s',h,a,ha=>by
  simp only[qch]at h;cases hg:g s b with
  |none=>rw[hg]at h;cases h
  |some s1=>
   rw[hg]at h;rcases zjx.1 ha with rfl|ha
   ·exact⟨s,s1,hg⟩
   ·exact qe4 l s1 s' h a ha
end
end Go.Abs
namespace Go.Abs
open Go Go.Proofs
noncomputable section
def go54_l1:(((List Int)×ty11)×Unit)->Option ((((List Int)×ty11)×Unit)⊕ty10):=(fun r0=>(bif(decide (r0.1.2.2.2.1<r0.1.2.2.1))then(grd (okB ((0<=r0.1.2.2.2.1)/\(r0.1.2.2.2.1<(r0.1.1.length:Int)))) (grd (okB ((0<=r0.1.2.2.2.1)/\(r0.1.2.2.2.1<(r0.1.2.1.length:Int)))) (bif(!(decide ((r0.1.1.getD r0.1.2.2.2.1.toNat 0)=(r0.1.2.1.getD r0.1.2.2.2.1.toNat 0))))then(some (Sum.inr (Sum.inr ((false,()),()))))else(grd (okB (((-9223372036854775808)<=(r0.1.2.2.2.1+1))/\((r0.1.2.2.2.1+1)<=9223372036854775807))) (some (Sum.inl ((r0.1.1,(r0.1.2.1,(r0.1.2.2.1,((r0.1.2.2.2.1+1),())))),())))))))else(some (Sum.inr (Sum.inl ((),()))))))
def go54(x0:(List Int))(x1:(List Int)):(Option (Bool×Unit)):=(bif(!(decide ((x0.length:Int)=(x1.length:Int))))then(some (false,()))else(qaj (qap (go54_l1) ((x0,(x1,((x0.length:Int),(0,())))),())) (fun z0=>(qgu (fun z1=>(some (true,()))) (fun z1=>(some (z1.1.1,()))) z0))))
def ann39:Ann:=(.seq .o (.join ⟨[(0,(.fz (.int .i64))),(1,(.fz (.int .i64)))],[]⟩ (.seq .o (.cond (.seq .o .o) .o)) (.join ⟨[],[]⟩ (.seq .o (.block (.loop sh55 [((.exit 0),⟨[],[]⟩),(.ret,⟨[(4,.b)],[]⟩)] (.join sh55 (.seq .o (.cond .o .o)) (.join sh55 (.block (.seq .o (.cond (.seq .o .o) .o))) .o))))) (.seq .o .o))))
def go39_l1:(((List Int)×ty17)×Unit)->Option ((((List Int)×ty17)×Unit)⊕ty10):=(fun r0=>(bif(decide (r0.1.2.2.1<(r0.1.1.length:Int)))then(grd (okB ((0<=r0.1.2.2.1)/\(r0.1.2.2.1<(r0.1.1.length:Int)))) (grd (okB ((0<=r0.1.2.2.1)/\(r0.1.2.2.1<(r0.1.2.1.length:Int)))) (bif(!(decide ((r0.1.1.getD r0.1.2.2.1.toNat 0)=(r0.1.2.1.getD r0.1.2.2.1.toNat 0))))then(some (Sum.inr (Sum.inr ((false,()),()))))else(grd (okB (((-9223372036854775808)<=(r0.1.2.2.1+1))/\((r0.1.2.2.1+1)<=9223372036854775807))) (some (Sum.inl ((r0.1.1,(r0.1.2.1,((r0.1.2.2.1+1),()))),())))))))else(some (Sum.inr (Sum.inl ((),()))))))
def go39(x0:(List Int))(x1:(List Int)):(Option (Bool×Unit)):=(bif(!(decide ((x0.length:Int)=(x1.length:Int))))then(some (false,()))else(qaj (qap (go39_l1) ((x0,(x1,(0,()))),())) (fun z0=>(qgu (fun z1=>(some (true,()))) (fun z1=>(some (z1.1.1,()))) z0))))
theorem run39(x0:(List Int))(x1:(List Int)):qdd (P:=Try.prog) [] Try.f39 ann39 [(0,(.fz (.int .i64))),(1,(.fz (.int .i64)))] [] .b [] (x0,(x1,())) ()=go39 x0 x1:=by kernel_rfl
theorem all_eq{x y:List Int}(h:x.length=y.length):(List.range x.length).all (fun i=>decide (x.getD i 0=y.getD i 0))=decide (x=y):=by
 rw[Bool.eq_iff_iff];simp only[zjm,zj3,decide_eq_true_eq]
 constructor
 ·intro k;refine zkv h fun i h1 h2=>?_;have:=k i h1;simpa[zi5,h1,h2]using this
 ·rintro rfl i _;rfl
theorem ok54(x y:List Int)(hx:x.length<=LEN):go54 x y=some (decide (x=y),()):=by
 rw[qcl]at hx;unfold go54 go54_l1;by_cases h:(x.length:Int)=y.length
 ·have h':x.length=y.length:=by omega
  simp(maxSteps:=1000000) (disch:=((try dsimp only);omega)) only[↓gsA,gsB]
  refine qa5 (qa6 (l:=List.range x.length) (st:=fun i=>((x,y,((x.length:Nat):Int),(i:Int),()),())) rfl 0 (fun i=>decide (x.getD i 0=y.getD i 0)) (A:=.inl ((),())) (B:=.inr ((false,()),())) (fun i hi hp=>?_) (fun i hi hp=>?_) (fun _=>?_)) ?_
  ·rw[zjb]at hi;rw[qaw hi]at hp;have hp:=of_decide_eq_true hp;simp(maxSteps:=1000000) (disch:=((try dsimp only);omega)) only[↓gsA,gsB]
  ·rw[zjb]at hi;rw[qaw hi]at hp;have hp:=of_decide_eq_false hp;simp(maxSteps:=1000000) (disch:=((try dsimp only);omega)) only[↓gsA,gsB]
  ·rw[zjb];simp(maxSteps:=1000000) (disch:=((try dsimp only);omega)) only[↓gsA,gsB]
  ·rw[all_eq h'];by_cases e:x=y
   ·rw[decide_eq_true e];rfl
   ·rw[decide_eq_false e];rfl
 ·have e:x≠y:=fun e=>h (by rw[e]);rw[decide_eq_false e];simp(maxSteps:=1000000) (disch:=((try dsimp only);omega)) only[↓gsA,gsB]
theorem ok39(x y:List Int)(hx:x.length<=LEN):go39 x y=some (decide (x=y),()):=by
 rw[qcl]at hx;unfold go39 go39_l1;by_cases h:(x.length:Int)=y.length
 ·have h':x.length=y.length:=by omega
  simp(maxSteps:=1000000) (disch:=((try dsimp only);omega)) only[↓gsA,gsB]
  refine qa5 (qa6 (l:=List.range x.length) (st:=fun i=>((x,y,(i:Int),()),())) rfl 0 (fun i=>decide (x.getD i 0=y.getD i 0)) (A:=.inl ((),())) (B:=.inr ((false,()),())) (fun i hi hp=>?_) (fun i hi hp=>?_) (fun _=>?_)) ?_
  ·rw[zjb]at hi;rw[qaw hi]at hp;have hp:=of_decide_eq_true hp;simp(maxSteps:=1000000) (disch:=((try dsimp only);omega)) only[↓gsA,gsB]
  ·rw[zjb]at hi;rw[qaw hi]at hp;have hp:=of_decide_eq_false hp;simp(maxSteps:=1000000) (disch:=((try dsimp only);omega)) only[↓gsA,gsB]
  ·rw[zjb];simp(maxSteps:=1000000) (disch:=((try dsimp only);omega)) only[↓gsA,gsB]
  ·rw[all_eq h'];by_cases e:x=y
   ·rw[decide_eq_true e];rfl
   ·rw[decide_eq_false e];rfl
 ·have e:x≠y:=fun e=>h (by rw[e]);rw[decide_eq_false e];simp(maxSteps:=1000000) (disch:=((try dsimp only);omega)) only[↓gsA,gsB]
def c39:Ctr Try.prog:=qbl 39 Try.f39 Try.func39 [] ann39 [(0,(.fz (.int .i64))),(1,(.fz (.int .i64)))] [] .b [] (fun x _=>grd (okB (x.1.length<=LEN)) (some (decide (x.1=x.2.1),()))) (fun x _ r h=>FO (run39 x.1 x.2.1) (ok39 x.1 x.2.1) h)
end
end Go.Abs
namespace Go.Abs
open Go Go.Proofs
noncomputable section
def qc4(f:Fn)(o:List Int):List Bool:=(List.range f.blocks.length).map fun(i:Nat)=>o.any fun y=>decide (y=(i:Int))
theorem qi5(f:Fn)(o:List Int):(qc4 f o).length=f.blocks.length:=by simp[qc4]
theorem ql9(f:Fn)(o:List Int){b:Int}(h0:0<=b)(h1:b<f.blocks.length):(qc4 f o).getD b.toNat false=o.any fun y=>decide (y=b):=by
 have h2:b.toNat<(List.range f.blocks.length).length:=by simp;omega
 have e:((b.toNat:Nat):Int)=b:=zk1 h0;simp only[qc4,zi5,zkc,zjc h2,zk0,zko,zjv,e]
theorem qhu(f:Fn)(o:List Int){b:Int}(h0:0<=b)(h1:b<f.blocks.length):(qc4 f o).set b.toNat true=qc4 f (o++[b]):=by
 refine zkv (by simp[qc4]) fun i h2 h3=>?_;simp only[qc4,List.getElem_set,List.getElem_map,zk0,List.any_append,List.any_cons,List.any_nil,Bool.or_false];by_cases h:b.toNat=i
 ·rw[if_pos h,decide_eq_true (show b=(i:Int)by omega),Bool.or_true]
 ·rw[if_neg h,decide_eq_false (show ¬ b=(i:Int)by omega),Bool.or_false]
theorem qog(f:Fn):∀(n:Nat) (b:Int) (s:List Bool×List Int),s.1=qc4 f s.2->(Sp.visit f n b s).1=qc4 f (Sp.visit f n b s).2
 |0,b,s,h=>h
 |n+1,b,s,h=>by
  unfold Sp.visit;split
  ·exact h
  ·rename_i hb;split
   ·exact h
   ·refine qhj (fun r:List Bool×List Int=>r.1=qc4 f r.2) _ (fun r e hr=>qog f n e.block r hr) _ _ ?_;have hl:s.1.length=f.blocks.length:=by rw[h,qi5]
    show s.1.set b.toNat true=_;rw[h];exact qhu f s.2 (by omega) (by omega)
def zbq(f:Fn):Prop:=∀i,i<f.blocks.length->∀k,k<(f.blocks.getD i Block.z).term.to.length->0<=((f.blocks.getD i Block.z).term.to.getD k Edge.z).block/\((f.blocks.getD i Block.z).term.to.getD k Edge.z).block<f.blocks.length
end
end Go.Abs
namespace Go.Abs
open Go Go.Proofs
noncomputable section
def ann68:Ann:=(.seq .o (.block (.loop sh56 [((.exit 0),⟨[],sh65⟩)] (.seq .o (.join sh56 (.cond .o .o) (.join sh56 (.block (.seq .o .o)) .o))))))
def go68_l1:((Unit×ty7)×ty16)->Option (((Unit×ty7)×ty16)⊕(Unit×ty16)):=(fun r0=>(bif(decide (r0.1.2.2.2.2.1<r0.1.2.2.2.1))then(grd (okB ((0<=r0.1.2.2.2.2.1)/\(r0.1.2.2.2.2.1<(r0.2.1.length:Int)))) (grd (Nat.blt r0.1.2.2.2.2.1.toNat r0.2.1.length) (qaj (q7t (r0.2.1.getD r0.1.2.2.2.2.1.toNat 0) ((r0.2.2.2.1.1,((),((),((),((),((),())))))),(r0.2.2.2.2.1,(r0.2.2.2.2.2.1,(r0.2.2.2.2.2.2.1,(r0.2.2.2.2.2.2.2.1,(r0.2.2.2.2.2.2.2.2.1,(((),()),(r0.2.2.2.2.2.2.2.2.2.2.1,(((),()),(r0.2.2.2.2.2.2.2.2.2.2.2.2.2.1,()))))))))))) (fun r1=>(grd ((decide ((1:Nat)=1))&&((decide (r1.2.2.1.length=r0.2.2.2.2.1.length))&&((decide (r1.2.2.2.1.length=r0.2.2.2.2.2.1.length))&&((decide (r1.2.2.2.2.1.length=r0.2.2.2.2.2.2.1.length))&&((decide (r1.2.2.2.2.2.1.length=r0.2.2.2.2.2.2.2.1.length))&&((decide (r1.2.2.2.2.2.2.1.length=r0.2.2.2.2.2.2.2.2.1.length))&&((decide ((1:Nat)=1))&&((decide ((1:Nat)=1))&&true)))))))) (grd (okB ((0<=r0.1.2.2.2.2.1)/\(r0.1.2.2.2.2.1<(r0.2.1.length:Int)))) (grd (Nat.blt r0.1.2.2.2.2.1.toNat r0.2.1.length) (grd (okB (((-9223372036854775808)<=(r0.1.2.2.2.2.1+1))/\((r0.1.2.2.2.2.1+1)<=9223372036854775807))) (some (Sum.inl (((),((),((),(r0.1.2.2.2.1,((r0.1.2.2.2.2.1+1),()))))),((r0.2.1.set r0.1.2.2.2.2.1.toNat r1.1),((((),((),((),()))),()),((r1.2.1.1,((),((),((),((),((),())))))),(r1.2.2.1,(r1.2.2.2.1,(r1.2.2.2.2.1,(r1.2.2.2.2.2.1,(r1.2.2.2.2.2.2.1,(((),()),(r1.2.2.2.2.2.2.2.2.1,(((),()),((),(r1.2.2.2.2.2.2.2.2.2.2.2.1,()))))))))))))))))))))))))else(some (Sum.inr ((),(r0.2.1,((((),((),((),()))),()),((r0.2.2.2.1.1,((),((),((),((),((),())))))),(r0.2.2.2.2.1,(r0.2.2.2.2.2.1,(r0.2.2.2.2.2.2.1,(r0.2.2.2.2.2.2.2.1,(r0.2.2.2.2.2.2.2.2.1,(((),()),(r0.2.2.2.2.2.2.2.2.2.2.1,(((),()),((),(r0.2.2.2.2.2.2.2.2.2.2.2.2.2.1,()))))))))))))))))))
def go68(y0:(List Int))(y1:(ty9×Unit))(y2:(ByteArray×(Unit×(Unit×ty9))))(y3:(List Int))(y4:(List Arr))(y5:(List qbd))(y6:(List Int))(y7:(List qac))(y8:(Unit×Unit))(y9:(qb1->(Option Int)))(y10:(Unit×Unit))(y11:(List Int)):(Option (Unit×ty16)):=(qaj (qap (go68_l1) (((),((),((),((y0.length:Int),(0,()))))),(y0,((((),((),((),()))),()),((y2.1,((),((),((),((),((),())))))),(y3,(y4,(y5,(y6,(y7,(((),()),(y9,(((),()),((),(y11,()))))))))))))))) (fun z0=>(some ((),(z0.2.1,((((),((),((),()))),()),((z0.2.2.2.1.1,((),((),((),((),((),())))))),(z0.2.2.2.2.1,(z0.2.2.2.2.2.1,(z0.2.2.2.2.2.2.1,(z0.2.2.2.2.2.2.2.1,(z0.2.2.2.2.2.2.2.2.1,(((),()),(z0.2.2.2.2.2.2.2.2.2.2.1,(((),()),((),(z0.2.2.2.2.2.2.2.2.2.2.2.2.2.1,())))))))))))))))))
theorem run68(y0:(List Int))(y1:((Unit×(Unit×(Unit×Unit)))×Unit))(y2:(ByteArray×(Unit×(Unit×(Unit×(Unit×(Unit×Unit)))))))(y3:(List Int))(y4:(List Arr))(y5:(List qbd))(y6:(List Int))(y7:(List qac))(y8:(Unit×Unit))(y9:(qb1->(Option Int)))(y10:(Unit×Unit))(y11:(List Int)):qdd (P:=Try.prog) [c67] Try.f68 ann68 [(0,(.full 0)),(1,(.ptr 1 0))] [(.lst 3 (.int .i64)),(.cells 23 [(.fn 67 [(.ptr 2 0),(.ptr 8 0),(.ptr 10 0)])]),(.cells 30 [.s,(.full 3),(.full 4),(.full 5),(.full 6),(.full 7)]),(.lst 3 (.int .i64)),(.lst 53 (.st 4)),(.lst 55 (.st 5)),(.lst 3 (.int .i64)),(.lst 41 (.st 14)),(.cells 91 [(.qca 9)]),(.mp false (.int .i64)),(.cells 25 [(.full 11)]),(.lst 3 (.int .i64))] (.tup []) [(.lst 3 (.int .i64)),(.cells 23 [(.fn 67 [(.ptr 2 0),(.ptr 8 0),(.ptr 10 0)])]),(.cells 30 [.s,(.full 3),(.full 4),(.full 5),(.full 6),(.full 7)]),(.lst 3 (.int .i64)),(.lst 53 (.st 4)),(.lst 55 (.st 5)),(.lst 3 (.int .i64)),(.lst 41 (.st 14)),(.cells 91 [(.qca 9)]),(.mp false (.int .i64)),(.cells 25 [(.full 12)]),.dead,(.lst 3 (.int .i64))] ((),((),())) (y0,(y1,(y2,(y3,(y4,(y5,(y6,(y7,(y8,(y9,(y10,(y11,()))))))))))))=go68 y0 y1 y2 y3 y4 y5 y6 y7 y8 y9 y10 y11:=by kernel_rfl
def Sp.qg0(W:List Int):List Int->RS->List Int×RS
 |[],s=>([],s)
 |v::l,s=>((Sp.num W v s).1::(Sp.qg0 W l (Sp.num W v s).2).1,(Sp.qg0 W l (Sp.num W v s).2).2)
theorem q1a(W:List Int)(v:Int)(s:RS):(Sp.num W v s).2.2.length<=s.2.length+1:=by
 unfold Sp.num;split
 ·exact Nat.le_succ _
 ·split
  ·exact Nat.le_succ _
  ·simp
theorem q5q(W:List Int):∀(l:List Int) (s:RS),(Sp.qg0 W l s).2.2.length<=s.2.length+l.length
 |[],s=>zi7 _
 |v::l,s=>by
  have h1:=q1a W v s;have h2:=q5q W l (Sp.num W v s).2;simp only[Sp.qg0,zi9];omega
theorem qey(W:List Int):∀(l:List Int) (s:RS),(Sp.qg0 W l s).1.length=l.length
 |[],s=>rfl
 |v::l,s=>by simp only[Sp.qg0,zi9,qey W l]
theorem qd0{α:Type}(l1:List α)(v:α)(l2:List α)(z:α):(l1++v::l2).getD l1.length z=v:=by simp
theorem qfl{α:Type}(l1:List α)(v n:α)(l2:List α):(l1++v::l2).set l1.length n=l1++n::l2:=by simp
def f67(nm:ByteArray):F67:=(nm,((),((),((),((),((),()))))))
def b67(nm:ByteArray)(W:List Int)(a:List Arr)(t:List qbd)(rt:List Int)(bl:List qac)(s:RS):B67:=(f67 nm,(W,(a,(t,(rt,(bl,(((),()),(s.1,(((),()),(s.2,()))))))))))
def r67(nm:ByteArray)(W:List Int)(a:List Arr)(t:List qbd)(rt:List Int)(bl:List qac)(s:RS):C67:=(f67 nm,(W,(a,(t,(rt,(bl,(((),()),(s.1,(((),()),((),(s.2,())))))))))))
theorem qtj(v:Int)(nm W a t rt bl s):q7t v (b67 nm W a t rt bl s)=grd (room s.2.length) (some ((Sp.num W v s).1,r67 nm W a t rt bl (Sp.num W v s).2)):=rfl
theorem q77(nm:ByteArray)(W:List Int)(a:List Arr)(t:List qbd)(rt:List Int)(bl:List qac):∀(l2 l1:List Int) (s:RS),s.2.length+l2.length<1073741824->l1.length+l2.length<1073741824 ->
  qap go68_l1 (((),((),((),(((l1.length+l2.length:Nat):Int),((l1.length:Int),()))))),(l1++l2,((((),((),((),()))),()),r67 nm W a t rt bl s)))=some ((),(l1++(Sp.qg0 W l2 s).1,((((),((),((),()))),()),r67 nm W a t rt bl (Sp.qg0 W l2 s).2)))
 |[],l1,s,hr,hl=>by
  rw[qbt];unfold go68_l1 r67 f67;simp only[Sp.qg0,zji,zka];simp(maxSteps:=1000000) (disch:=((try dsimp only);omega)) only[↓gsA,gsB]
 |v::l2,l1,s,hr,hl=>by
  simp only[zi9]at hr hl;have hr1:room s.2.length=true:=qdr (by omega);have ih:=q77 nm W a t rt bl l2 (l1++[(Sp.num W v s).1]) (Sp.num W v s).2 (by
   have:=q1a W v s
   omega) (by simp only[zjh,zi9,zji];omega)
  rw[qbt];have e:=qtj v nm W a t rt bl s;unfold b67 f67 at e;have step:go68_l1 (((),((),((),(((l1.length+(v::l2).length:Nat):Int),((l1.length:Int),()))))),(l1++v::l2,((((),((),((),()))),()),r67 nm W a t rt bl s)))=some (.inl (((),((),((),(((l1.length+(v::l2).length:Nat):Int),(((l1.length+1:Nat):Int),()))))),(l1++(Sp.num W v s).1::l2,((((),((),((),()))),()),r67 nm W a t rt bl (Sp.num W v s).2)))):=by
   unfold go68_l1;simp only[r67,f67,zjh,zi9,zja,qd0,qfl,e,hr1,qba,qaf];simp(maxSteps:=1000000) (disch:=((try dsimp only);omega)) only[↓gsA,gsB]
   rfl
  rw[step];simp only[zjh,zi9,zji,zkr,zk7,zjf]at ih;simp only[Sp.qg0,zi9];rw[show l1.length+(l2.length+1)=l1.length+1+l2.length by omega];exact ih
abbrev N68:=(Unit×(Unit×(Unit×Unit)))×Unit
abbrev B68:=List Int×(N68×B67)
abbrev C68:=List Int×(N68×C67)
def q7s(y:B68):Option (Unit×C68):=grd (room ((q88 y.2.2).2.length+y.1.length)) (some ((),((Sp.qg0 y.2.2.2.1 y.1 (q88 y.2.2)).1,((((),((),((),()))),()),zgs y.2.2 (Sp.qg0 y.2.2.2.1 y.1 (q88 y.2.2)).2))))
theorem ok68(y:B68){r:Unit×C68}(h:q7s y=some r):go68 y.1 y.2.1 y.2.2.1 y.2.2.2.1 y.2.2.2.2.1 y.2.2.2.2.2.1 y.2.2.2.2.2.2.1 y.2.2.2.2.2.2.2.1 y.2.2.2.2.2.2.2.2.1 y.2.2.2.2.2.2.2.2.2.1 y.2.2.2.2.2.2.2.2.2.2.1 y.2.2.2.2.2.2.2.2.2.2.2.1=some r:=by
 unfold q7s at h;obtain⟨hr,h⟩:=qbs h;injection h with h;subst h;obtain⟨l,u0,⟨nm,u1⟩,W,a,t,rt,bl,u2,m,u3,w,u4⟩:=y;have hr:w.length+l.length<1073741824:=zi8 hr;have k:=q77 nm W a t rt bl l [] (m,w) hr (by simp only[zji];omega)
 simp only[zji,zjf,zj8]at k;unfold go68;simp only;unfold r67 f67 at k;have k0:((0:Nat):Int)=0:=rfl;simp only[k0]at k;rw[k];rfl
def c68:Ctr Try.prog:=qbl 68 Try.f68 Try.func68 [c67] ann68 [(0,(.full 0)),(1,(.ptr 1 0))] [(.lst 3 (.int .i64)),(.cells 23 [(.fn 67 [(.ptr 2 0),(.ptr 8 0),(.ptr 10 0)])]),(.cells 30 [.s,(.full 3),(.full 4),(.full 5),(.full 6),(.full 7)]),(.lst 3 (.int .i64)),(.lst 53 (.st 4)),(.lst 55 (.st 5)),(.lst 3 (.int .i64)),(.lst 41 (.st 14)),(.cells 91 [(.qca 9)]),(.mp false (.int .i64)),(.cells 25 [(.full 11)]),(.lst 3 (.int .i64))] (.tup []) [(.lst 3 (.int .i64)),(.cells 23 [(.fn 67 [(.ptr 2 0),(.ptr 8 0),(.ptr 10 0)])]),(.cells 30 [.s,(.full 3),(.full 4),(.full 5),(.full 6),(.full 7)]),(.lst 3 (.int .i64)),(.lst 53 (.st 4)),(.lst 55 (.st 5)),(.lst 3 (.int .i64)),(.lst 41 (.st 14)),(.cells 91 [(.qca 9)]),(.mp false (.int .i64)),(.cells 25 [(.full 12)]),.dead,(.lst 3 (.int .i64))] (fun x y=>q7s y) (fun x y r h=>(run68 _ _ _ _ _ _ _ _ _ _ _ _).trans (ok68 y h))
end
end Go.Abs
namespace Go.Abs
open Go Go.Proofs
noncomputable section
def qgr{α β σ:Type}(g:α->σ->β×σ):List α->σ->List β×σ
 |[],s=>([],s)
 |a::l,s=>((g a s).1::(qgr g l (g a s).2).1,(qgr g l (g a s).2).2)
theorem qr4(W:List Int):∀(l:List Int) (s:RS),Sp.qg0 W l s=qgr (Sp.num W) l s
 |[],s=>rfl
 |v::l,s=>by simp only[Sp.qg0,qgr,qr4 W l]
theorem qik{α β σ:Type}(g:α->σ->β×σ):∀(l:List α) (s:σ),(qgr g l s).1.length=l.length
 |[],s=>rfl
 |a::l,s=>by simp only[qgr,zi9,qik g l]
theorem qll{α β σ:Type}{g:α->σ->β×σ}{I:σ->Prop}(h:∀a s,I s->I (g a s).2):∀(l:List α) (s:σ),I s->I (qgr g l s).2
 |[],s,hs=>hs
 |a::l,s,hs=>qll h l _ (h a s hs)
def Sp.qky(W:List Int)(x:qat)(s:RS):qat×RS:=
 (⟨x.op,(Sp.num W x.dest (Sp.qg0 W x.args s).2).1,(Sp.qg0 W x.args s).1,x.num,x.mem⟩,(Sp.num W x.dest (Sp.qg0 W x.args s).2).2)
def Sp.qkz(W:List Int)(e:Edge)(s:RS):Edge×RS:=(⟨e.block,(Sp.qg0 W e.args s).1⟩,(Sp.qg0 W e.args s).2)
def Sp.rPs(W:List Int)(b:Block)(s:RS):List Int×RS:=Sp.qg0 W b.params s
def Sp.rIs(W:List Int)(b:Block)(s:RS):List qat×RS:=qgr (Sp.qky W) b.insts (Sp.rPs W b s).2
def Sp.rCd(W:List Int)(b:Block)(s:RS):Int×RS:=Sp.num W b.term.cond (Sp.rIs W b s).2
def Sp.rRs(W:List Int)(b:Block)(s:RS):List Int×RS:=Sp.qg0 W b.term.qax (Sp.rCd W b s).2
def Sp.rTo(W:List Int)(b:Block)(s:RS):List Edge×RS:=qgr (Sp.qkz W) b.term.to (Sp.rRs W b s).2
def Sp.q0u(W:List Int)(b:Block)(s:RS):Block×RS:=
 (⟨(Sp.rPs W b s).1,(Sp.rIs W b s).1,⟨b.term.kind,(Sp.rCd W b s).1,(Sp.rTo W b s).1,(Sp.rRs W b s).1⟩,b.qar,b.qa9,b.line⟩,(Sp.rTo W b s).2)
def free(W:List Int)(m:qb1->Option Int):Nat:=(List.range W.length).countP fun(v:Nat)=>(m (.i (v:Int))).isNone
theorem qo8(p q:Nat->Bool)(k:Nat)(hp:p k=true)(hq:q k=false)(h:∀j,j≠k->p j=q j):∀n,(List.range n).countP q+(if k<n then 1 else 0)=(List.range n).countP p
 |0=>by simp
 |n+1=>by
  have ih:=qo8 p q k hp hq h n;simp only[List.range_succ,List.countP_append,List.countP_singleton];by_cases e:n=k
  ·subst e;rw[if_neg (zku _)]at ih;rw[if_pos (Nat.lt_succ_self _),hp,hq];simp only[if_true,zjw,if_false];omega
  ·rw[h n e];by_cases e2:k<n
   ·rw[if_pos e2]at ih;rw[if_pos (show k<n+1 by omega)];omega
   ·rw[if_neg e2]at ih;rw[if_neg (show ¬ k<n+1 by omega)];omega
theorem q18(W:List Int)(m:qb1->Option Int)(v n:Int)(h0:0<=v)(h1:v<W.length)(hm:m (.i v)=none):free W (qij m (.i v) n)+1=free W m:=by
 have:=qo8 (fun j:Nat=>(m (.i (j:Int))).isNone) (fun j:Nat=>(qij m (.i v) n (.i (j:Int))).isNone) v.toNat (by
  show(m (.i ((v.toNat:Nat):Int))).isNone=true;rw[zk1 h0,hm];rfl) (by
  show(qij m (.i v) n (.i ((v.toNat:Nat):Int))).isNone=false;rw[zk1 h0];simp[qij]) (fun j hj=>by
  have:(qb1.i (j:Int))≠qb1.i v:=fun e=>by injection e with e;omega
  show(m (.i (j:Int))).isNone=(qij m (.i v) n (.i (j:Int))).isNone;unfold qij;rw[if_neg this]) W.length
 rw[if_pos (show v.toNat<W.length by omega)]at this;exact this
def qh5(W:List Int)(s:RS):Prop:=s.2.length+free W s.1<=W.length
theorem num_inv(W:List Int)(v:Int)(s:RS)(h:qh5 W s):qh5 W (Sp.num W v s).2:=by
 unfold Sp.num;split
 ·exact h
 ·rename_i hv;split
  ·exact h
  ·rename_i hm;have:=q18 W s.1 v (s.2.length:Int) (by omega) (by omega) hm;unfold qh5 at h ⊢;simp only[zjh,List.length_singleton];omega
theorem qhw(W:List Int)(l:List Int)(s:RS)(h:qh5 W s):qh5 W (Sp.qg0 W l s).2:=by
 rw[qr4];exact qll (I:=qh5 W) (fun v s=>num_inv W v s) l s h
theorem qrv(W:List Int)(x:qat)(s:RS)(h:qh5 W s):qh5 W (Sp.qky W x s).2:=num_inv W _ _ (qhw W _ _ h)
theorem qrw(W:List Int)(x:Edge)(s:RS)(h:qh5 W s):qh5 W (Sp.qkz W x s).2:=qhw W _ _ h
theorem q0r(W:List Int)(b:Block)(s:RS)(h:qh5 W s):qh5 W (Sp.rPs W b s).2:=qhw W _ _ h
theorem q0s(W:List Int)(b:Block)(s:RS)(h:qh5 W s):qh5 W (Sp.rIs W b s).2:=qll (I:=qh5 W) (fun x s=>qrv W x s) _ _ (q0r W b s h)
theorem q0t(W:List Int)(b:Block)(s:RS)(h:qh5 W s):qh5 W (Sp.rCd W b s).2:=num_inv W _ _ (q0s W b s h)
theorem q9j(W:List Int)(b:Block)(s:RS)(h:qh5 W s):qh5 W (Sp.rRs W b s).2:=qhw W _ _ (q0t W b s h)
theorem q9i(W:List Int)(b:Block)(s:RS)(h:qh5 W s):qh5 W (Sp.rTo W b s).2:=qll (I:=qh5 W) (fun x s=>qrw W x s) _ _ (q9j W b s h)
theorem q5j(W:List Int)(b:Block)(s:RS)(h:qh5 W s):qh5 W (Sp.q0u W b s).2:=q9i W b s h
theorem qh5.room{W:List Int}{s:RS}(h:qh5 W s)(hW:W.length<=100000){n:Nat}(hn:n<=100000):room (s.2.length+n)=true:=by
 unfold qh5 at h;exact qdr (by omega)
def SmB(b:Block):Prop:=b.params.length<=100000/\b.insts.length<=100000/\b.term.to.length<=100000/\b.term.qax.length<=100000/\(∀x∈b.insts,x.args.length<=100000)/\∀e∈b.term.to,e.args.length<=100000
end
end Go.Abs
namespace Go.Abs
open Go Go.Proofs
noncomputable section
def G7(f:Fn):ByteArray×(Unit×(List Arr×(List qbd×(List Int×(Unit×Unit))))):=(f.name,((),(f.qag,(f.streams,(f.qax,((),()))))))
structure RgB(f:Fn)(b:Block):Prop where
 ps:∀v∈b.params,0<=v/\v<f.qaa.length
 ds:∀x∈b.insts,x.dest<f.qaa.length
 ar:∀x∈b.insts,∀v∈x.args,0<=v/\v<f.qaa.length
 cd:b.term.cond<f.qaa.length
 rs:∀v∈b.term.qax,0<=v/\v<f.qaa.length
 es:∀e∈b.term.to,0<=e.block/\e.block<f.blocks.length
 ea:∀e∈b.term.to,∀v∈e.args,0<=v/\v<f.qaa.length
end
end Go.Abs
