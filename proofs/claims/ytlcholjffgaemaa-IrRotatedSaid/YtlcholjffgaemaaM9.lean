/-
Texts of the proof, part 9: Ud Ue Uk Uf Ug Y0 Un Uh T9 O2 Ta.
No statement of the program is proved here.
-/
import Derived.Test.YtlcholjffgaemaaM8
import Derived.OpenShut
set_option linter.unusedVariables false
set_option linter.unusedSectionVars false
set_option linter.unusedSimpArgs false
set_option maxHeartbeats 1000000
namespace Go.Abs
open Go Go.Proofs
noncomputable section
def sh172:List OSh:=[(.cells 105 [(.ptr 1 0)]),(.cells 107 [.s,(.fz (.int .i64)),(.fz (.st 4)),(.fz (.st 5)),(.fz (.int .i64)),(.fz (.st 3)),(.full 2),(.full 3)]),(.lst 4 .bool),(.lst 3 (.int .i64))]
def sh173:List OSh:=[(.cells 107 [.s,(.fz (.int .i64)),(.fz (.st 4)),(.fz (.st 5)),(.fz (.int .i64)),(.fz (.st 3)),(.full 1),(.full 2)]),(.lst 4 .bool),(.lst 3 (.int .i64)),(.box 46 (.st 0))]
def sh174:List OSh:=[(.cells 107 [.s,(.fz (.int .i64)),(.fz (.st 4)),(.fz (.st 5)),(.fz (.int .i64)),(.fz (.st 3)),(.full 1),(.full 2)]),(.lst 4 .bool),(.lst 3 (.int .i64)),(.box 46 (.st 0)),(.cells 144 [(.i .i64),(.i .i64),(.i .i64)])]
def sh175:List OSh:=[(.cells 107 [.s,(.fz (.int .i64)),(.fz (.st 4)),(.fz (.st 5)),(.fz (.int .i64)),(.fz (.st 3)),(.full 1),(.full 2)]),(.lst 4 .bool),(.lst 3 (.int .i64)),(.cells 105 [(.ptr 0 0)]),(.box 39 (.st 2))]
def sh176:List OSh:=[(.cells 107 [.s,(.fz (.int .i64)),(.fz (.st 4)),(.fz (.st 5)),(.fz (.int .i64)),(.fz (.st 3)),(.full 1),(.full 2)]),(.lst 4 .bool),(.lst 3 (.int .i64))]
def sh177:List OSh:=[(.cells 107 [.s,(.fz (.int .i64)),(.fz (.st 4)),(.fz (.st 5)),(.fz (.int .i64)),(.fz (.st 3)),(.full 1),(.full 2)]),(.lst 4 .bool),(.lst 3 (.int .i64)),(.box 41 (.st 3))]
def sh158:SSh:=⟨[],sh172⟩
def sh159:SSh:=⟨[(1,(.fz (.int .i64))),(2,(.fn 150 [(.ptr 0 0)])),(15,(.fz (.int .i64))),(16,(.i .i64)),(17,(.i .i64))],sh172⟩
def sh160:SSh:=⟨[(6,.b)],sh172⟩
def sh161:SSh:=⟨[(0,(.ptr 0 0)),(3,(.ptr 3 0)),(5,(.i .i64))],sh173⟩
def sh162:SSh:=⟨[(3,(.ptr 3 0)),(5,(.i .i64)),(7,(.i .i64)),(8,(.ptr 4 0))],sh174⟩
def sh163:SSh:=⟨[(0,(.ptr 0 0)),(3,(.ptr 3 0)),(5,(.i .i64)),(7,(.i .i64)),(8,(.ptr 4 0)),(59,(.fz (.int .i64))),(60,(.i .i64)),(61,(.i .i64))],sh174⟩
def sh164:SSh:=⟨[(1,(.fz (.int .i64))),(2,(.fn 137 [(.ptr 0 0)])),(15,(.fz (.int .i64))),(16,(.i .i64)),(17,(.i .i64))],sh172⟩
def sh165:SSh:=⟨[(2,(.i .i64)),(3,(.ptr 3 0)),(4,(.ptr 4 0))],sh175⟩
def sh166:SSh:=⟨[(2,(.i .i64)),(3,(.ptr 3 0)),(4,(.ptr 4 0)),(10,(.fz (.st 1))),(11,(.i .i64)),(12,(.i .i64))],sh175⟩
def sh167:SSh:=⟨[(6,.b)],sh176⟩
def sh168:SSh:=⟨[(0,(.ptr 0 0)),(2,(.i .i64)),(4,(.ptr 3 0))],sh177⟩
def sh169:SSh:=⟨[(0,(.ptr 0 0)),(2,(.i .i64)),(4,(.ptr 3 0)),(46,(.fz (.int .i64))),(47,(.i .i64)),(48,(.i .i64))],sh177⟩
def sh170:SSh:=⟨[(0,(.ptr 0 0)),(2,(.i .i64)),(4,(.ptr 3 0)),(59,(.fz (.st 0))),(60,(.i .i64)),(61,(.i .i64))],sh177⟩
def sh171:SSh:=⟨[(4,(.ptr 0 0)),(62,(.fz (.st 3))),(63,(.i .i64)),(64,(.i .i64))],sh176⟩
abbrev ty148:=(ByteArray×((List Int)×((List Arr)×((List qbd)×((List Int)×((List Block)×(Unit×(Unit×Unit))))))))
abbrev ty149:=(ty148×((List Bool)×((List Int)×Unit)))
abbrev ty154:=(ty148×((List Bool)×((List Int)×(qat×((Int×(Int×(Int×Unit)))×Unit)))))
abbrev ty150:=((Unit×(Unit×(Int×(Int×(Unit×((List Int)×(Int×(Int×Unit))))))))×ty154)
abbrev ty151:=(ty148×((List Bool)×((List Int)×(Block×Unit))))
abbrev ty152:=(((List Int)×((Unit×Unit)×((List Int)×(Int×(Int×Unit)))))×((Unit×Unit)×ty149))
abbrev ty153:=((Unit×(Int×(Unit×((List qat)×(Int×(Int×Unit))))))×ty151)
abbrev ty155:=((Int×(Unit×(Unit×((List Edge)×(Int×(Int×Unit))))))×(ty148×((List Bool)×((List Int)×((Unit×Unit)×(Term×Unit))))))
abbrev ty156:=(((Unit×(Int×(Unit×Unit)))×ty151)⊕((Bool×Unit)×ty149))
abbrev ty157:=(ty152⊕((Unit×((Unit×Unit)×ty149))⊕((Bool×Unit)×((Unit×Unit)×ty149))))
def ann84:Ann:=(.seq .o (.seq .o .o))
def go84(x0:(List Int))(x1:Unit):(Option (Bool×Unit)):=(qaj (grd (okB (x0.length<=LEN)) (some ((Sp.qyg x0),()))) (fun r0=>(some ((decide (0<=r0.1)),()))))
theorem run84(x0:(List Int))(x1:Unit):qdd (P:=Try.prog) [c120] Try.f84 ann84 [(0,(.fz (.int .i64))),(1,(.fn 82 []))] [] .b [] (x0,(x1,())) ()=go84 x0 x1:=by kernel_rfl
def ann136:Ann:=(.seq .o (.join ⟨[(0,(.fz (.int .i64))),(1,(.fz (.int .i64))),(2,(.fn 150 [(.ptr 0 0)]))],sh172⟩ (.seq .o (.cond (.seq .o .o) .o)) (.join sh158 (.seq .o (.block (.loop sh159 [((.exit 0),sh158),(.ret,sh160)] (.seq .o (.join sh159 (.cond .o .o) (.join sh159 (.block (.seq .o (.seq .o (.seq .o (.cond (.seq .o .o) .o))))) .o)))))) (.seq .o .o))))
def go136_l1:ty152->Option ty157:=(fun r0=>(bif(decide (r0.1.2.2.2.2.1<r0.1.2.2.2.1))then(grd (okB ((0<=r0.1.2.2.2.2.1)/\(r0.1.2.2.2.2.1<(r0.1.2.2.1.length:Int)))) (grd (okB ((0<=r0.1.2.2.2.2.1)/\(r0.1.2.2.2.2.1<(r0.1.1.length:Int)))) (qaj (grd (okB (Fn.inW (mkF (r0.2.2.1.1,(r0.2.2.1.2.1,(r0.2.2.1.2.2.1,(r0.2.2.1.2.2.2.1,(r0.2.2.1.2.2.2.2.1,(r0.2.2.1.2.2.2.2.2.1,((),((),()))))))))) (r0.1.2.2.1.getD r0.1.2.2.2.2.1.toNat 0))) (some ((Sp.qg9 (mkF (r0.2.2.1.1,(r0.2.2.1.2.1,(r0.2.2.1.2.2.1,(r0.2.2.1.2.2.2.1,(r0.2.2.1.2.2.2.2.1,(r0.2.2.1.2.2.2.2.2.1,((),((),()))))))))) (r0.1.2.2.1.getD r0.1.2.2.2.2.1.toNat 0) (r0.1.1.getD r0.1.2.2.2.2.1.toNat 0)),(((),()),((r0.2.2.1.1,(r0.2.2.1.2.1,(r0.2.2.1.2.2.1,(r0.2.2.1.2.2.2.1,(r0.2.2.1.2.2.2.2.1,(r0.2.2.1.2.2.2.2.2.1,((),((),())))))))),(r0.2.2.2.1,(r0.2.2.2.2.1,()))))))) (fun r1=>(grd ((decide ((1:Nat)=1))&&((decide ((1:Nat)=1))&&((decide (r1.2.2.2.1.length=r0.2.2.2.1.length))&&((decide (r1.2.2.2.2.1.length=r0.2.2.2.2.1.length))&&true)))) (bif(!r1.1)then(some (Sum.inr (Sum.inr ((false,()),(((),()),((r1.2.2.1.1,(r1.2.2.1.2.1,(r1.2.2.1.2.2.1,(r1.2.2.1.2.2.2.1,(r1.2.2.1.2.2.2.2.1,(r1.2.2.1.2.2.2.2.2.1,((),((),())))))))),(r1.2.2.2.1,(r1.2.2.2.2.1,()))))))))else(grd (okB (((-9223372036854775808)<=(r0.1.2.2.2.2.1+1))/\((r0.1.2.2.2.2.1+1)<=9223372036854775807))) (some (Sum.inl ((r0.1.1,(((),()),(r0.1.2.2.1,(r0.1.2.2.2.1,((r0.1.2.2.2.2.1+1),()))))),(((),()),((r1.2.2.1.1,(r1.2.2.1.2.1,(r1.2.2.1.2.2.1,(r1.2.2.1.2.2.2.1,(r1.2.2.1.2.2.2.2.1,(r1.2.2.1.2.2.2.2.2.1,((),((),())))))))),(r1.2.2.2.1,(r1.2.2.2.2.1,()))))))))))))))else(some (Sum.inr (Sum.inl ((),(((),()),((r0.2.2.1.1,(r0.2.2.1.2.1,(r0.2.2.1.2.2.1,(r0.2.2.1.2.2.2.1,(r0.2.2.1.2.2.2.2.1,(r0.2.2.1.2.2.2.2.2.1,((),((),())))))))),(r0.2.2.2.1,(r0.2.2.2.2.1,()))))))))))
def go136(x0:(List Int))(x1:(List Int))(x2:(Unit×Unit))(y0:(Unit×Unit))(y1:ty148)(y2:(List Bool))(y3:(List Int)):(Option (Bool×((Unit×Unit)×ty149))):=(bif(!(decide ((x0.length:Int)=(x1.length:Int))))then(some (false,(((),()),((y1.1,(y1.2.1,(y1.2.2.1,(y1.2.2.2.1,(y1.2.2.2.2.1,(y1.2.2.2.2.2.1,((),((),())))))))),(y2,(y3,()))))))else(qaj (qap (go136_l1) ((x1,(((),()),(x0,((x0.length:Int),(0,()))))),(((),()),((y1.1,(y1.2.1,(y1.2.2.1,(y1.2.2.2.1,(y1.2.2.2.2.1,(y1.2.2.2.2.2.1,((),((),())))))))),(y2,(y3,())))))) (fun z0=>(qgu (fun z1=>(some (true,(((),()),((z1.2.2.1.1,(z1.2.2.1.2.1,(z1.2.2.1.2.2.1,(z1.2.2.1.2.2.2.1,(z1.2.2.1.2.2.2.2.1,(z1.2.2.1.2.2.2.2.2.1,((),((),())))))))),(z1.2.2.2.1,(z1.2.2.2.2.1,()))))))) (fun z1=>(some (z1.1.1,(((),()),((z1.2.2.1.1,(z1.2.2.1.2.1,(z1.2.2.1.2.2.1,(z1.2.2.1.2.2.2.1,(z1.2.2.1.2.2.2.2.1,(z1.2.2.1.2.2.2.2.2.1,((),((),())))))))),(z1.2.2.2.1,(z1.2.2.2.2.1,()))))))) z0))))
theorem run136(x0:(List Int))(x1:(List Int))(x2:(Unit×Unit))(y0:(Unit×Unit))(y1:(ByteArray×((List Int)×((List Arr)×((List qbd)×((List Int)×((List Block)×(Unit×(Unit×Unit)))))))))(y2:(List Bool))(y3:(List Int)):qdd (P:=Try.prog) [c150] Try.f136 ann136 [(0,(.fz (.int .i64))),(1,(.fz (.int .i64))),(2,(.fn 150 [(.ptr 0 0)]))] [(.cells 105 [(.ptr 1 0)]),(.cells 107 [.s,(.fz (.int .i64)),(.fz (.st 4)),(.fz (.st 5)),(.fz (.int .i64)),(.fz (.st 3)),(.full 2),(.full 3)]),(.lst 4 .bool),(.lst 3 (.int .i64))] .b [(.cells 105 [(.ptr 1 0)]),(.cells 107 [.s,(.fz (.int .i64)),(.fz (.st 4)),(.fz (.st 5)),(.fz (.int .i64)),(.fz (.st 3)),(.full 2),(.full 3)]),(.lst 4 .bool),(.lst 3 (.int .i64))] (x0,(x1,(x2,()))) (y0,(y1,(y2,(y3,()))))=go136 x0 x1 x2 y0 y1 y2 y3:=by kernel_rfl
def ann123:Ann:=(.seq .o (.seq .o (.join sh161 (.seq .o (.cond (.seq .o .o) .o)) (.seq .o (.join ⟨[(0,(.ptr 0 0)),(3,(.ptr 3 0)),(5,(.i .i64)),(7,(.i .i64))],sh173⟩ (.seq .o (.cond (.join sh161 (.seq .o (.cond (.seq .o .o) .o)) .o) (.seq .o (.cond (.seq .o .o) .o)))) (.seq .o (.join sh162 (.seq .o (.block (.loop sh163 [((.exit 0),sh162)] (.seq .o (.join sh163 (.cond .o .o) (.join sh163 (.block (.seq .o .o)) .o)))))) (.join ⟨[(3,(.ptr 3 0)),(7,(.i .i64)),(8,(.ptr 4 0))],sh174⟩ (.seq .o (.block (.seq .o (.cond (.seq .o .o) (.seq .o (.cond (.seq .o .o) (.join ⟨[(3,(.ptr 3 0)),(5,(.i .i64)),(7,(.i .i64)),(8,(.ptr 4 0)),(78,(.i .i64)),(95,.b)],sh174⟩ (.seq .o (.cond .o .o)) (.cond (.seq .o .o) (.seq .o (.cond (.seq .o .o) (.seq .o (.cond (.seq .o .o) (.seq .o (.cond (.seq .o .o) (.seq .o (.cond (.seq .o .o) (.seq .o (.cond (.seq .o .o) .o)))))))))))))))))) (.join ⟨[(7,(.i .i64)),(8,(.ptr 3 0))],[(.cells 107 [.s,(.fz (.int .i64)),(.fz (.st 4)),(.fz (.st 5)),(.fz (.int .i64)),(.fz (.st 3)),(.full 1),(.full 2)]),(.lst 4 .bool),(.lst 3 (.int .i64)),(.cells 144 [(.i .i64),(.i .i64),(.i .i64)])]⟩ (.seq .o (.cond (.seq .o .o) .o)) (.seq .o .o))))))))))
def go123_j4:((Unit×(Int×(Int×(Unit×(Int×(Bool×Unit))))))×ty154)->Option (Bool×ty149):=(fun z3=>(bif z3.1.2.2.2.2.2.1 then(some ((decide (z3.2.2.2.2.2.1.1<z3.1.2.2.1)),((z3.2.1.1,(z3.2.1.2.1,(z3.2.1.2.2.1,(z3.2.1.2.2.2.1,(z3.2.1.2.2.2.2.1,(z3.2.1.2.2.2.2.2.1,((),((),())))))))),(z3.2.2.1,(z3.2.2.2.1,())))))else(bif(decide (z3.1.2.2.2.2.1=24))then(some ((decide (z3.1.2.2.1<z3.2.2.2.2.2.1.1)),((z3.2.1.1,(z3.2.1.2.1,(z3.2.1.2.2.1,(z3.2.1.2.2.2.1,(z3.2.1.2.2.2.2.1,(z3.2.1.2.2.2.2.2.1,((),((),())))))))),(z3.2.2.1,(z3.2.2.2.1,())))))else(bif(decide (z3.1.2.2.2.2.1=25))then(bif(decide (z3.1.2.1=z3.1.2.2.1))then(some ((decide (z3.2.2.2.2.2.1.2.1=1)),((z3.2.1.1,(z3.2.1.2.1,(z3.2.1.2.2.1,(z3.2.1.2.2.2.1,(z3.2.1.2.2.2.2.1,(z3.2.1.2.2.2.2.2.1,((),((),())))))))),(z3.2.2.1,(z3.2.2.2.1,())))))else(some (false,((z3.2.1.1,(z3.2.1.2.1,(z3.2.1.2.2.1,(z3.2.1.2.2.2.1,(z3.2.1.2.2.2.2.1,(z3.2.1.2.2.2.2.2.1,((),((),())))))))),(z3.2.2.1,(z3.2.2.2.1,()))))))else(bif(decide (z3.1.2.2.2.2.1=26))then(bif(decide (z3.1.2.1=z3.2.2.2.2.2.1.2.1))then(some ((decide (z3.2.2.2.2.2.1.2.2.1=1)),((z3.2.1.1,(z3.2.1.2.1,(z3.2.1.2.2.1,(z3.2.1.2.2.2.1,(z3.2.1.2.2.2.2.1,(z3.2.1.2.2.2.2.2.1,((),((),())))))))),(z3.2.2.1,(z3.2.2.2.1,())))))else(some (false,((z3.2.1.1,(z3.2.1.2.1,(z3.2.1.2.2.1,(z3.2.1.2.2.2.1,(z3.2.1.2.2.2.2.1,(z3.2.1.2.2.2.2.2.1,((),((),())))))))),(z3.2.2.1,(z3.2.2.2.1,()))))))else(bif(decide (z3.1.2.2.2.2.1=27))then(bif(decide (z3.1.2.1=z3.1.2.2.1))then(some ((decide (z3.2.2.2.2.2.1.1=1)),((z3.2.1.1,(z3.2.1.2.1,(z3.2.1.2.2.1,(z3.2.1.2.2.2.1,(z3.2.1.2.2.2.2.1,(z3.2.1.2.2.2.2.2.1,((),((),())))))))),(z3.2.2.1,(z3.2.2.2.1,())))))else(some (false,((z3.2.1.1,(z3.2.1.2.1,(z3.2.1.2.2.1,(z3.2.1.2.2.2.1,(z3.2.1.2.2.2.2.1,(z3.2.1.2.2.2.2.2.1,((),((),())))))))),(z3.2.2.1,(z3.2.2.2.1,()))))))else(bif(decide (z3.1.2.2.2.2.1=28))then(bif(decide (z3.1.2.1=z3.2.2.2.2.2.1.1))then(some ((decide (z3.2.2.2.2.2.1.2.1=1)),((z3.2.1.1,(z3.2.1.2.1,(z3.2.1.2.2.1,(z3.2.1.2.2.2.1,(z3.2.1.2.2.2.2.1,(z3.2.1.2.2.2.2.2.1,((),((),())))))))),(z3.2.2.1,(z3.2.2.2.1,())))))else(some (false,((z3.2.1.1,(z3.2.1.2.1,(z3.2.1.2.2.1,(z3.2.1.2.2.2.1,(z3.2.1.2.2.2.2.1,(z3.2.1.2.2.2.2.2.1,((),((),())))))))),(z3.2.2.1,(z3.2.2.2.1,()))))))else(bif(Sp.qcz z3.2.2.2.2.1.op)then(bif(decide (z3.2.2.2.2.2.1.1=z3.2.2.2.2.2.1.2.1))then(some ((decide (z3.1.2.2.1=1)),((z3.2.1.1,(z3.2.1.2.1,(z3.2.1.2.2.1,(z3.2.1.2.2.2.1,(z3.2.1.2.2.2.2.1,(z3.2.1.2.2.2.2.2.1,((),((),())))))))),(z3.2.2.1,(z3.2.2.2.1,())))))else(some (false,((z3.2.1.1,(z3.2.1.2.1,(z3.2.1.2.2.1,(z3.2.1.2.2.2.1,(z3.2.1.2.2.2.2.1,(z3.2.1.2.2.2.2.2.1,((),((),())))))))),(z3.2.2.1,(z3.2.2.2.1,()))))))else(bif(decide (z3.2.2.2.2.2.1.1=z3.1.2.2.1))then(some ((decide (z3.2.2.2.2.2.1.2.1=z3.1.2.2.1)),((z3.2.1.1,(z3.2.1.2.1,(z3.2.1.2.2.1,(z3.2.1.2.2.2.1,(z3.2.1.2.2.2.2.1,(z3.2.1.2.2.2.2.2.1,((),((),())))))))),(z3.2.2.1,(z3.2.2.2.1,())))))else(some (false,((z3.2.1.1,(z3.2.1.2.1,(z3.2.1.2.2.1,(z3.2.1.2.2.2.1,(z3.2.1.2.2.2.2.1,(z3.2.1.2.2.2.2.2.1,((),((),())))))))),(z3.2.2.1,(z3.2.2.2.1,()))))))))))))))
def go123_j3:ty150->Option (ty150⊕((Unit×(Int×(Int×(Unit×Unit))))×ty154)):=(fun z2=>(grd (okB (((-9223372036854775808)<=(z2.1.2.2.2.2.2.2.2.1+1))/\((z2.1.2.2.2.2.2.2.2.1+1)<=9223372036854775807))) (some (Sum.inl (((),((),(z2.1.2.2.1,(z2.1.2.2.2.1,((),(z2.1.2.2.2.2.2.1,(z2.1.2.2.2.2.2.2.1,((z2.1.2.2.2.2.2.2.2.1+1),())))))))),((z2.2.1.1,(z2.2.1.2.1,(z2.2.1.2.2.1,(z2.2.1.2.2.2.1,(z2.2.1.2.2.2.2.1,(z2.2.1.2.2.2.2.2.1,((),((),())))))))),(z2.2.2.1,(z2.2.2.2.1,(z2.2.2.2.2.1,((z2.2.2.2.2.2.1.1,(z2.2.2.2.2.2.1.2.1,(z2.2.2.2.2.2.1.2.2.1,()))),()))))))))))
def go123_l1:ty150->Option (ty150⊕((Unit×(Int×(Int×(Unit×Unit))))×ty154)):=(fun r0=>(bif(decide (r0.1.2.2.2.2.2.2.2.1<r0.1.2.2.2.2.2.2.1))then(jpO (go123_j3) (fun j0=>(grd (okB ((0<=r0.1.2.2.2.2.2.2.2.1)/\(r0.1.2.2.2.2.2.2.2.1<(r0.1.2.2.2.2.2.1.length:Int)))) (grd (okB ((0<=(r0.1.2.2.2.2.2.1.getD r0.1.2.2.2.2.2.2.2.1.toNat 0))/\((r0.1.2.2.2.2.2.1.getD r0.1.2.2.2.2.2.2.2.1.toNat 0)<(r0.2.1.2.1.length:Int)))) (bif(decide (r0.1.2.2.2.2.2.2.2.1=0))then(j0 (((),((),(r0.1.2.2.1,(r0.1.2.2.2.1,((),(r0.1.2.2.2.2.2.1,(r0.1.2.2.2.2.2.2.1,(r0.1.2.2.2.2.2.2.2.1,())))))))),((r0.2.1.1,(r0.2.1.2.1,(r0.2.1.2.2.1,(r0.2.1.2.2.2.1,(r0.2.1.2.2.2.2.1,(r0.2.1.2.2.2.2.2.1,((),((),())))))))),(r0.2.2.1,(r0.2.2.2.1,(r0.2.2.2.2.1,(((r0.2.1.2.1.getD (r0.1.2.2.2.2.2.1.getD r0.1.2.2.2.2.2.2.2.1.toNat 0).toNat 0),(r0.2.2.2.2.2.1.2.1,(r0.2.2.2.2.2.1.2.2.1,()))),())))))))else(bif(decide (r0.1.2.2.2.2.2.2.2.1=(Int.ofNat ((0:Nat)+1))))then(j0 (((),((),(r0.1.2.2.1,(r0.1.2.2.2.1,((),(r0.1.2.2.2.2.2.1,(r0.1.2.2.2.2.2.2.1,(r0.1.2.2.2.2.2.2.2.1,())))))))),((r0.2.1.1,(r0.2.1.2.1,(r0.2.1.2.2.1,(r0.2.1.2.2.2.1,(r0.2.1.2.2.2.2.1,(r0.2.1.2.2.2.2.2.1,((),((),())))))))),(r0.2.2.1,(r0.2.2.2.1,(r0.2.2.2.2.1,((r0.2.2.2.2.2.1.1,((r0.2.1.2.1.getD (r0.1.2.2.2.2.2.1.getD r0.1.2.2.2.2.2.2.2.1.toNat 0).toNat 0),(r0.2.2.2.2.2.1.2.2.1,()))),())))))))else(bif(decide (r0.1.2.2.2.2.2.2.2.1=(Int.ofNat (((0:Nat)+1)+1))))then(j0 (((),((),(r0.1.2.2.1,(r0.1.2.2.2.1,((),(r0.1.2.2.2.2.2.1,(r0.1.2.2.2.2.2.2.1,(r0.1.2.2.2.2.2.2.2.1,())))))))),((r0.2.1.1,(r0.2.1.2.1,(r0.2.1.2.2.1,(r0.2.1.2.2.2.1,(r0.2.1.2.2.2.2.1,(r0.2.1.2.2.2.2.2.1,((),((),())))))))),(r0.2.2.1,(r0.2.2.2.1,(r0.2.2.2.2.1,((r0.2.2.2.2.2.1.1,(r0.2.2.2.2.2.1.2.1,((r0.2.1.2.1.getD (r0.1.2.2.2.2.2.1.getD r0.1.2.2.2.2.2.2.2.1.toNat 0).toNat 0),()))),())))))))else none)))))))else(some (Sum.inr (((),(r0.1.2.2.1,(r0.1.2.2.2.1,((),())))),((r0.2.1.1,(r0.2.1.2.1,(r0.2.1.2.2.1,(r0.2.1.2.2.2.1,(r0.2.1.2.2.2.2.1,(r0.2.1.2.2.2.2.2.1,((),((),())))))))),(r0.2.2.1,(r0.2.2.2.1,(r0.2.2.2.2.1,((r0.2.2.2.2.2.1.1,(r0.2.2.2.2.2.1.2.1,(r0.2.2.2.2.2.1.2.2.1,()))),()))))))))))
def go123_j2:((Unit×(Unit×(Int×(Int×Unit))))×(ty148×((List Bool)×((List Int)×(qat×Unit)))))->Option (Bool×ty149):=(fun z1=>(qaj (qap (go123_l1) (((),((),(z1.1.2.2.1,(z1.1.2.2.2.1,((),(z1.2.2.2.2.1.args,((z1.2.2.2.2.1.args.length:Int),(0,())))))))),((z1.2.1.1,(z1.2.1.2.1,(z1.2.1.2.2.1,(z1.2.1.2.2.2.1,(z1.2.1.2.2.2.2.1,(z1.2.1.2.2.2.2.2.1,((),((),())))))))),(z1.2.2.1,(z1.2.2.2.1,(z1.2.2.2.2.1,((0,(0,(0,()))),()))))))) (fun z2=>(bif(decide (z2.2.2.2.2.1.op=1))then(qaj (grd (okB (U64 z2.2.2.2.2.1.num)) (some ((Sp.low z2.1.2.2.1 z2.2.2.2.2.1.num),()))) (fun r0=>(some ((decide (r0.1=z2.2.2.2.2.1.num)),((z2.2.1.1,(z2.2.1.2.1,(z2.2.1.2.2.1,(z2.2.1.2.2.2.1,(z2.2.1.2.2.2.2.1,(z2.2.1.2.2.2.2.2.1,((),((),())))))))),(z2.2.2.1,(z2.2.2.2.1,())))))))else(bif(decide (z2.2.2.2.2.1.op=21))then(some ((bif false then(!((decide (z2.2.2.2.2.2.1.1=1))&&((decide (z2.2.2.2.2.2.1.2.1=z2.1.2.2.1))&&(decide (z2.2.2.2.2.2.1.2.2.1=z2.1.2.2.1)))))else((decide (z2.2.2.2.2.2.1.1=1))&&((decide (z2.2.2.2.2.2.1.2.1=z2.1.2.2.1))&&(decide (z2.2.2.2.2.2.1.2.2.1=z2.1.2.2.1))))),((z2.2.1.1,(z2.2.1.2.1,(z2.2.1.2.2.1,(z2.2.1.2.2.2.1,(z2.2.1.2.2.2.2.1,(z2.2.1.2.2.2.2.2.1,((),((),())))))))),(z2.2.2.1,(z2.2.2.2.1,())))))else(jpO (go123_j4) (fun j0=>(bif(decide (z2.2.2.2.2.1.op=22))then(j0 (((),(z2.1.2.1,(z2.1.2.2.1,((),(z2.2.2.2.2.1.op,(true,())))))),((z2.2.1.1,(z2.2.1.2.1,(z2.2.1.2.2.1,(z2.2.1.2.2.2.1,(z2.2.1.2.2.2.2.1,(z2.2.1.2.2.2.2.2.1,((),((),())))))))),(z2.2.2.1,(z2.2.2.2.1,(z2.2.2.2.2.1,((z2.2.2.2.2.2.1.1,(z2.2.2.2.2.2.1.2.1,(z2.2.2.2.2.2.1.2.2.1,()))),())))))))else(j0 (((),(z2.1.2.1,(z2.1.2.2.1,((),(z2.2.2.2.2.1.op,((decide (z2.2.2.2.2.1.op=23)),())))))),((z2.2.1.1,(z2.2.1.2.1,(z2.2.1.2.2.1,(z2.2.1.2.2.2.1,(z2.2.1.2.2.2.2.1,(z2.2.1.2.2.2.2.2.1,((),((),())))))))),(z2.2.2.1,(z2.2.2.2.1,(z2.2.2.2.2.1,((z2.2.2.2.2.2.1.1,(z2.2.2.2.2.2.1.2.1,(z2.2.2.2.2.2.1.2.2.1,()))),())))))))))))))))
def go123_j1:((Unit×(Unit×(Int×Unit)))×(ty148×((List Bool)×((List Int)×(qat×Unit)))))->Option (Bool×ty149):=(fun z0=>(jpO (go123_j2) (fun j0=>(bif(Sp.named z0.2.2.2.2.1.op)then(bif(decide (z0.2.2.2.2.1.dest<0))then(some (false,((z0.2.1.1,(z0.2.1.2.1,(z0.2.1.2.2.1,(z0.2.1.2.2.2.1,(z0.2.1.2.2.2.2.1,(z0.2.1.2.2.2.2.2.1,((),((),())))))))),(z0.2.2.1,(z0.2.2.2.1,())))))else(bif(decide ((z0.2.1.2.1.length:Int)<=z0.2.2.2.2.1.dest))then(some (false,((z0.2.1.1,(z0.2.1.2.1,(z0.2.1.2.2.1,(z0.2.1.2.2.2.1,(z0.2.1.2.2.2.2.1,(z0.2.1.2.2.2.2.2.1,((),((),())))))))),(z0.2.2.1,(z0.2.2.2.1,())))))else(grd (okB ((0<=z0.2.2.2.2.1.dest)/\(z0.2.2.2.2.1.dest<(z0.2.1.2.1.length:Int)))) (j0 (((),((),(z0.1.2.2.1,((z0.2.1.2.1.getD z0.2.2.2.2.1.dest.toNat 0),())))),((z0.2.1.1,(z0.2.1.2.1,(z0.2.1.2.2.1,(z0.2.1.2.2.2.1,(z0.2.1.2.2.2.2.1,(z0.2.1.2.2.2.2.2.1,((),((),())))))))),(z0.2.2.1,(z0.2.2.2.1,(z0.2.2.2.2.1,())))))))))else(bif(!(decide (z0.2.2.2.2.1.dest=(-1))))then(some (false,((z0.2.1.1,(z0.2.1.2.1,(z0.2.1.2.2.1,(z0.2.1.2.2.2.1,(z0.2.1.2.2.2.2.1,(z0.2.1.2.2.2.2.2.1,((),((),())))))))),(z0.2.2.1,(z0.2.2.2.1,())))))else(j0 (((),((),(z0.1.2.2.1,(0,())))),((z0.2.1.1,(z0.2.1.2.1,(z0.2.1.2.2.1,(z0.2.1.2.2.2.1,(z0.2.1.2.2.2.2.1,(z0.2.1.2.2.2.2.2.1,((),((),())))))))),(z0.2.2.1,(z0.2.2.2.1,(z0.2.2.2.2.1,())))))))))))
def go123(x1:qat)(y0:ty148)(y1:(List Bool))(y2:(List Int)):(Option (Bool×ty149)):=(grd ((decide ((1:Nat)=1))&&((decide (y1.length=y1.length))&&((decide (y2.length=y2.length))&&true))) (jpO (go123_j1) (fun j0=>(bif(!(Sp.qtf (mkF (y0.1,(y0.2.1,(y0.2.2.1,(y0.2.2.2.1,(y0.2.2.2.2.1,(y0.2.2.2.2.2.1,((),((),()))))))))) x1).2)then(some (false,((y0.1,(y0.2.1,(y0.2.2.1,(y0.2.2.2.1,(y0.2.2.2.2.1,(y0.2.2.2.2.2.1,((),((),())))))))),(y1,(y2,())))))else(bif(!(decide (x1.num=0)))then(bif(!(decide (x1.op=1)))then(some (false,((y0.1,(y0.2.1,(y0.2.2.1,(y0.2.2.2.1,(y0.2.2.2.2.1,(y0.2.2.2.2.2.1,((),((),())))))))),(y1,(y2,())))))else(j0 (((),((),((Sp.qtf (mkF (y0.1,(y0.2.1,(y0.2.2.1,(y0.2.2.2.1,(y0.2.2.2.2.1,(y0.2.2.2.2.2.1,((),((),()))))))))) x1).1,()))),((y0.1,(y0.2.1,(y0.2.2.1,(y0.2.2.2.1,(y0.2.2.2.2.1,(y0.2.2.2.2.2.1,((),((),())))))))),(y1,(y2,(x1,())))))))else(j0 (((),((),((Sp.qtf (mkF (y0.1,(y0.2.1,(y0.2.2.1,(y0.2.2.2.1,(y0.2.2.2.2.1,(y0.2.2.2.2.2.1,((),((),()))))))))) x1).1,()))),((y0.1,(y0.2.1,(y0.2.2.1,(y0.2.2.2.1,(y0.2.2.2.2.1,(y0.2.2.2.2.2.1,((),((),())))))))),(y1,(y2,(x1,())))))))))))
theorem run123(x1:qat)(y0:(ByteArray×((List Int)×((List Arr)×((List qbd)×((List Int)×((List Block)×(Unit×(Unit×Unit)))))))))(y1:(List Bool))(y2:(List Int)):qdd (P:=Try.prog) [c53,c103,c133,c134] Try.f123 ann123 [(0,(.ptr 0 0)),(1,(.st 0))] [(.cells 107 [.s,(.fz (.int .i64)),(.fz (.st 4)),(.fz (.st 5)),(.fz (.int .i64)),(.fz (.st 3)),(.full 1),(.full 2)]),(.lst 4 .bool),(.lst 3 (.int .i64))] .b [(.cells 107 [.s,(.fz (.int .i64)),(.fz (.st 4)),(.fz (.st 5)),(.fz (.int .i64)),(.fz (.st 3)),(.full 1),(.full 2)]),(.lst 4 .bool),(.lst 3 (.int .i64))] ((),(x1,())) (y0,(y1,(y2,())))=go123 x1 y0 y1 y2:=by kernel_rfl namespace Q
def ann136:Ann:=(.seq .o (.join ⟨[(0,(.fz (.int .i64))),(1,(.fz (.int .i64))),(2,(.fn 137 [(.ptr 0 0)]))],sh172⟩ (.seq .o (.cond (.seq .o .o) .o)) (.join sh158 (.seq .o (.block (.loop sh164 [((.exit 0),sh158),(.ret,sh160)] (.seq .o (.join sh164 (.cond .o .o) (.join sh164 (.block (.seq .o (.seq .o (.seq .o (.cond (.seq .o .o) .o))))) .o)))))) (.seq .o .o))))
def go136_l1:ty152->Option ty157:=(fun r0=>(bif(decide (r0.1.2.2.2.2.1<r0.1.2.2.2.1))then(grd (okB ((0<=r0.1.2.2.2.2.1)/\(r0.1.2.2.2.2.1<(r0.1.2.2.1.length:Int)))) (grd (okB ((0<=r0.1.2.2.2.2.1)/\(r0.1.2.2.2.2.1<(r0.1.1.length:Int)))) (qaj (grd (okB (Fn.inW (mkF (r0.2.2.1.1,(r0.2.2.1.2.1,(r0.2.2.1.2.2.1,(r0.2.2.1.2.2.2.1,(r0.2.2.1.2.2.2.2.1,(r0.2.2.1.2.2.2.2.2.1,((),((),()))))))))) (r0.1.2.2.1.getD r0.1.2.2.2.2.1.toNat 0))) (some ((decide (((mkF (r0.2.2.1.1,(r0.2.2.1.2.1,(r0.2.2.1.2.2.1,(r0.2.2.1.2.2.2.1,(r0.2.2.1.2.2.2.2.1,(r0.2.2.1.2.2.2.2.2.1,((),((),()))))))))).qaa.getD (r0.1.2.2.1.getD r0.1.2.2.2.2.1.toNat 0).toNat 0)=(r0.1.1.getD r0.1.2.2.2.2.1.toNat 0))),(((),()),((r0.2.2.1.1,(r0.2.2.1.2.1,(r0.2.2.1.2.2.1,(r0.2.2.1.2.2.2.1,(r0.2.2.1.2.2.2.2.1,(r0.2.2.1.2.2.2.2.2.1,((),((),())))))))),(r0.2.2.2.1,(r0.2.2.2.2.1,()))))))) (fun r1=>(grd ((decide ((1:Nat)=1))&&((decide ((1:Nat)=1))&&((decide (r1.2.2.2.1.length=r0.2.2.2.1.length))&&((decide (r1.2.2.2.2.1.length=r0.2.2.2.2.1.length))&&true)))) (bif(!r1.1)then(some (Sum.inr (Sum.inr ((false,()),(((),()),((r1.2.2.1.1,(r1.2.2.1.2.1,(r1.2.2.1.2.2.1,(r1.2.2.1.2.2.2.1,(r1.2.2.1.2.2.2.2.1,(r1.2.2.1.2.2.2.2.2.1,((),((),())))))))),(r1.2.2.2.1,(r1.2.2.2.2.1,()))))))))else(grd (okB (((-9223372036854775808)<=(r0.1.2.2.2.2.1+1))/\((r0.1.2.2.2.2.1+1)<=9223372036854775807))) (some (Sum.inl ((r0.1.1,(((),()),(r0.1.2.2.1,(r0.1.2.2.2.1,((r0.1.2.2.2.2.1+1),()))))),(((),()),((r1.2.2.1.1,(r1.2.2.1.2.1,(r1.2.2.1.2.2.1,(r1.2.2.1.2.2.2.1,(r1.2.2.1.2.2.2.2.1,(r1.2.2.1.2.2.2.2.2.1,((),((),())))))))),(r1.2.2.2.1,(r1.2.2.2.2.1,()))))))))))))))else(some (Sum.inr (Sum.inl ((),(((),()),((r0.2.2.1.1,(r0.2.2.1.2.1,(r0.2.2.1.2.2.1,(r0.2.2.1.2.2.2.1,(r0.2.2.1.2.2.2.2.1,(r0.2.2.1.2.2.2.2.2.1,((),((),())))))))),(r0.2.2.2.1,(r0.2.2.2.2.1,()))))))))))
def go136(x0:(List Int))(x1:(List Int))(x2:(Unit×Unit))(y0:(Unit×Unit))(y1:ty148)(y2:(List Bool))(y3:(List Int)):(Option (Bool×((Unit×Unit)×ty149))):=(bif(!(decide ((x0.length:Int)=(x1.length:Int))))then(some (false,(((),()),((y1.1,(y1.2.1,(y1.2.2.1,(y1.2.2.2.1,(y1.2.2.2.2.1,(y1.2.2.2.2.2.1,((),((),())))))))),(y2,(y3,()))))))else(qaj (qap (go136_l1) ((x1,(((),()),(x0,((x0.length:Int),(0,()))))),(((),()),((y1.1,(y1.2.1,(y1.2.2.1,(y1.2.2.2.1,(y1.2.2.2.2.1,(y1.2.2.2.2.2.1,((),((),())))))))),(y2,(y3,())))))) (fun z0=>(qgu (fun z1=>(some (true,(((),()),((z1.2.2.1.1,(z1.2.2.1.2.1,(z1.2.2.1.2.2.1,(z1.2.2.1.2.2.2.1,(z1.2.2.1.2.2.2.2.1,(z1.2.2.1.2.2.2.2.2.1,((),((),())))))))),(z1.2.2.2.1,(z1.2.2.2.2.1,()))))))) (fun z1=>(some (z1.1.1,(((),()),((z1.2.2.1.1,(z1.2.2.1.2.1,(z1.2.2.1.2.2.1,(z1.2.2.1.2.2.2.1,(z1.2.2.1.2.2.2.2.1,(z1.2.2.1.2.2.2.2.2.1,((),((),())))))))),(z1.2.2.2.1,(z1.2.2.2.2.1,()))))))) z0))))
theorem run136(x0:(List Int))(x1:(List Int))(x2:(Unit×Unit))(y0:(Unit×Unit))(y1:(ByteArray×((List Int)×((List Arr)×((List qbd)×((List Int)×((List Block)×(Unit×(Unit×Unit)))))))))(y2:(List Bool))(y3:(List Int)):qdd (P:=Try.prog) [c137] Try.f136 ann136 [(0,(.fz (.int .i64))),(1,(.fz (.int .i64))),(2,(.fn 137 [(.ptr 0 0)]))] [(.cells 105 [(.ptr 1 0)]),(.cells 107 [.s,(.fz (.int .i64)),(.fz (.st 4)),(.fz (.st 5)),(.fz (.int .i64)),(.fz (.st 3)),(.full 2),(.full 3)]),(.lst 4 .bool),(.lst 3 (.int .i64))] .b [(.cells 105 [(.ptr 1 0)]),(.cells 107 [.s,(.fz (.int .i64)),(.fz (.st 4)),(.fz (.st 5)),(.fz (.int .i64)),(.fz (.st 3)),(.full 2),(.full 3)]),(.lst 4 .bool),(.lst 3 (.int .i64))] (x0,(x1,(x2,()))) (y0,(y1,(y2,(y3,()))))=go136 x0 x1 x2 y0 y1 y2 y3:=by kernel_rfl
end Q
theorem ok84(l:List Int)(hl:l.length<=LEN):go84 l ()=some (!l.all Sp.right,()):=by
 unfold go84;rw[qak hl];simp only[qaf,q6z]
def c84:Ctr Try.prog:=qbl 84 Try.f84 Try.func84 [c120] ann84 [(0,(.fz (.int .i64))),(1,(.fn 82 []))] [] .b [] (fun x _=>grd (okB (x.1.length<=LEN)) (some (!x.1.all Sp.right,()))) (fun x _ r h=>FO (run84 x.1 x.2.1) (ok84 x.1) h)
def Sp.pairs(p:Int->Int->Bool)(x y:List Int):Bool:=decide (x.length=y.length)&&(List.range x.length).all fun i=>p (x.getD i 0) (y.getD i 0)
def Fn.q66(f:Fn)(l:List Int):Prop:=l.length<=LEN/\∀i,i<l.length->f.inW (l.getD i 0)
theorem ok136(x y:List Int)(f:Fn)(d:List Bool)(k:List Int)(h:f.q66 x):go136 x y ((),()) ((),()) (pkF f) d k=some (Sp.pairs (Sp.qg9 f) x y,((),()),pkF f,d,k,()):=by
 obtain⟨hl,hw⟩:=h;rw[qcl]at hl;unfold go136 Sp.pairs;by_cases he:x.length=y.length
 rotate_left
 ·have he':¬ (x.length:Int)=y.length:=by omega
  rw[decide_eq_false he,decide_eq_false he'];rfl
 have he':(x.length:Int)=y.length:=by omega
 rw[decide_eq_true he,decide_eq_true he'];simp only[zju,cond_false,zjy];unfold go136_l1;refine qa5 (qa6 (l:=List.range x.length) (st:=fun i=>((y,((),()),x,((x.length:Nat):Int),(i:Int),()),((),()),pkF f,d,k,())) rfl 0 (fun i=>Sp.qg9 f (x.getD i 0) (y.getD i 0)) (A:=Sum.inl ((),((),()),pkF f,d,k,())) (B:=Sum.inr ((false,()),((),()),pkF f,d,k,())) (fun i hi hp=>?_) (fun i hi hp=>?_) (fun _=>?_)) ?_
 ·rw[zjb]at hi;rw[qaw hi]at hp;have hi2:i<y.length:=by omega
  have hw:=hw i hi;simp only[zja,qak (show Fn.inW (mkF (pkF f)) (x.getD i 0)from hw),qaf,decide_true,zjq,qba];simp(maxSteps:=1000000) (disch:=((try dsimp only);omega)) only[↓gsA,gsB]
  rw[hp];rfl
 ·rw[zjb]at hi;rw[qaw hi]at hp;have hi2:i<y.length:=by omega
  have hw:=hw i hi;simp only[zja,qak (show Fn.inW (mkF (pkF f)) (x.getD i 0)from hw),qaf,decide_true,zjq,qba];simp(maxSteps:=1000000) (disch:=((try dsimp only);omega)) only[↓gsA,gsB]
  rw[hp];rfl
 ·rw[zjb];simp(maxSteps:=1000000) (disch:=((try dsimp only);omega)) only[↓gsA,gsB]
 ·cases(List.range x.length).all fun i=>Sp.qg9 f (x.getD i 0) (y.getD i 0)<;>rfl
def c136:Ctr Try.prog:=qbl 136 Try.f136 Try.func136 [c150] ann136 [(0,(.fz (.int .i64))),(1,(.fz (.int .i64))),(2,(.fn 150 [(.ptr 0 0)]))] [(.cells 105 [(.ptr 1 0)]),(.cells 107 [.s,(.fz (.int .i64)),(.fz (.st 4)),(.fz (.st 5)),(.fz (.int .i64)),(.fz (.st 3)),(.full 2),(.full 3)]),(.lst 4 .bool),(.lst 3 (.int .i64))] .b [(.cells 105 [(.ptr 1 0)]),(.cells 107 [.s,(.fz (.int .i64)),(.fz (.st 4)),(.fz (.st 5)),(.fz (.int .i64)),(.fz (.st 3)),(.full 2),(.full 3)]),(.lst 4 .bool),(.lst 3 (.int .i64))] (fun x y=>grd (okB ((mkF y.2.1).q66 x.1)) (some (Sp.pairs (Sp.qg9 (mkF y.2.1)) x.1 x.2.1,((),()),y.2.1,y.2.2.1,y.2.2.2.1,())))
 (fun x y r h=>FO (run136 x.1 x.2.1 x.2.2.1 y.1 y.2.1 y.2.2.1 y.2.2.2.1) (ok136 x.1 x.2.1 (mkF y.2.1) y.2.2.1 y.2.2.2.1) h)
namespace Q
theorem ok136(x y:List Int)(f:Fn)(d:List Bool)(k:List Int)(h:f.q66 x):Q.go136 x y ((),()) ((),()) (pkF f) d k=some (Sp.pairs (fun v w=>decide (f.qaa.getD v.toNat 0=w)) x y,((),()),pkF f,d,k,()):=by
 obtain⟨hl,hw⟩:=h;rw[qcl]at hl;unfold Q.go136 Sp.pairs;by_cases he:x.length=y.length
 rotate_left
 ·have he':¬ (x.length:Int)=y.length:=by omega
  rw[decide_eq_false he,decide_eq_false he'];rfl
 have he':(x.length:Int)=y.length:=by omega
 rw[decide_eq_true he,decide_eq_true he'];simp only[zju,cond_false,zjy];unfold Q.go136_l1;refine qa5 (qa6 (l:=List.range x.length) (st:=fun i=>((y,((),()),x,((x.length:Nat):Int),(i:Int),()),((),()),pkF f,d,k,())) rfl 0 (fun i=>decide (f.qaa.getD (x.getD i 0).toNat 0=y.getD i 0)) (A:=Sum.inl ((),((),()),pkF f,d,k,())) (B:=Sum.inr ((false,()),((),()),pkF f,d,k,())) (fun i hi hp=>?_) (fun i hi hp=>?_) (fun _=>?_)) ?_
 ·rw[zjb]at hi;rw[qaw hi]at hp;have hi2:i<y.length:=by omega
  have hw:=hw i hi;simp only[zja,qak (show Fn.inW (mkF (pkF f)) (x.getD i 0)from hw),qaf,decide_true,zjq,qba,hp];simp(maxSteps:=1000000) (disch:=((try dsimp only);omega)) only[↓gsA,gsB]
 ·rw[zjb]at hi;rw[qaw hi]at hp;have hi2:i<y.length:=by omega
  have hw:=hw i hi;simp only[zja,qak (show Fn.inW (mkF (pkF f)) (x.getD i 0)from hw),qaf,decide_true,zjq,qba,hp];simp(maxSteps:=1000000) (disch:=((try dsimp only);omega)) only[↓gsA,gsB]
 ·rw[zjb];simp(maxSteps:=1000000) (disch:=((try dsimp only);omega)) only[↓gsA,gsB]
 ·cases(List.range x.length).all fun i=>decide (f.qaa.getD (x.getD i 0).toNat 0=y.getD i 0)<;>rfl
end Q
def ze1:Ctr Try.prog:=qbl 136 Try.f136 Try.func136 [c137] Q.ann136 [(0,(.fz (.int .i64))),(1,(.fz (.int .i64))),(2,(.fn 137 [(.ptr 0 0)]))] [(.cells 105 [(.ptr 1 0)]),(.cells 107 [.s,(.fz (.int .i64)),(.fz (.st 4)),(.fz (.st 5)),(.fz (.int .i64)),(.fz (.st 3)),(.full 2),(.full 3)]),(.lst 4 .bool),(.lst 3 (.int .i64))] .b [(.cells 105 [(.ptr 1 0)]),(.cells 107 [.s,(.fz (.int .i64)),(.fz (.st 4)),(.fz (.st 5)),(.fz (.int .i64)),(.fz (.st 3)),(.full 2),(.full 3)]),(.lst 4 .bool),(.lst 3 (.int .i64))] (fun x y=>grd (okB ((mkF y.2.1).q66 x.1)) (some (Sp.pairs (fun v w=>decide ((mkF y.2.1).qaa.getD v.toNat 0=w)) x.1 x.2.1,((),()),y.2.1,y.2.2.1,y.2.2.2.1,())))
 (fun x y r h=>FO (Q.run136 x.1 x.2.1 x.2.2.1 y.1 y.2.1 y.2.2.1 y.2.2.2.1) (Q.ok136 x.1 x.2.1 (mkF y.2.1) y.2.2.1 y.2.2.2.1) h)
def Sp.aw(f:Fn)(x:qat)(j i:Nat):Int:=if j<i then f.qaa.getD (x.args.getD j 0).toNat 0 else 0
def Sp.zd9(f:Fn)(x:qat):Int:=if Sp.named x.op then f.qaa.getD x.dest.toNat 0 else 0
def Sp.qx2(f:Fn)(x:qat):Bool:=if Sp.named x.op then !decide (x.dest<0)&&!decide ((f.qaa.length:Int)<=x.dest)else decide (x.dest=-1)
def Sp.qsf(x:qat):Bool:=decide (x.num=0)||decide (x.op=1)
def Sp.q6d(x:qat)(op w m a0 a1 a2:Int):Bool:=
 if op=24 then decide (w<a0)
 else if op=25 then decide (m=w)&&decide (a1=1)
 else if op=26 then decide (m=a1)&&decide (a2=1)
 else if op=27 then decide (m=w)&&decide (a0=1)
 else if op=28 then decide (m=a0)&&decide (a1=1)
 else if Sp.qcz x.op then decide (a0=a1)&&decide (w=1)
 else decide (a0=w)&&decide (a1=w)
def Sp.zbx(x:qat)(w m a0 a1 a2:Int):Bool:=
 if x.op=1 then decide (Sp.low w x.num=x.num)
 else if x.op=21 then decide (a0=1)&&(decide (a1=w)&&decide (a2=w))
 else if x.op=22\/x.op=23 then decide (a0<w)else Sp.q6d x x.op w m a0 a1 a2
def Sp.q8b(f:Fn)(x:qat):Bool:=(Sp.qtf f x).2&&(Sp.qsf x&&(Sp.qx2 f x&&Sp.zbx x (Sp.zd9 f x) (Sp.qtf f x).1 (Sp.aw f x 0 x.args.length) (Sp.aw f x 1 x.args.length) (Sp.aw f x 2 x.args.length)))
def Sp.qxz(f:Fn)(x:qat):Prop:=x.args.length<=3/\(∀i,i<x.args.length->f.inW (x.args.getD i 0))/\U64 x.num
section
variable {f:Fn} {x:qat} {d:List Bool} {k:List Int} {m w:Int}
theorem zd4(op a0 a1 a2:Int)(b:Bool):go123_j4 (((),m,w,(),op,b,()),pkF f,d,k,x,(a0,a1,a2,()),())=some (if b=true then decide (a0<w)else Sp.q6d x op w m a0 a1 a2,pkF f,d,k,()):=by
 unfold go123_j4 Sp.q6d;simp only[qb8];have ab:∀(p:Prop) [Decidable p] (c:Bool) (S:CK×List Bool×List Int×Unit),(if p then(some (c,S):Option (Bool×CK×List Bool×List Int×Unit))else some (false,S))=some (decide p&&c,S):=fun p _ c S=>by by_cases h:p<;>simp[h]
 simp only[ab];cases b
 ·cases Sp.qcz x.op<;>simp only[cond_true,cond_false,zjw,if_true,if_false]<;>repeat' split
  all_goals rfl
 ·rfl
theorem zd6(h:Sp.qxz f x):go123_j2 (((),(),m,w,()),pkF f,d,k,x,())=some (Sp.zbx x w m (Sp.aw f x 0 x.args.length) (Sp.aw f x 1 x.args.length) (Sp.aw f x 2 x.args.length),pkF f,d,k,()):=by
 obtain⟨ha,hu,hn⟩:=h;unfold go123_j2 go123_l1;refine qa5 (qcj (st:=fun i=>(((),(),m,w,(),x.args,((x.args.length:Nat):Int),(i:Int),()),pkF f,d,k,x,(Sp.aw f x 0 i,Sp.aw f x 1 i,Sp.aw f x 2 i,()),())) (by simp[Sp.aw]) x.args.length (X0:=(((),m,w,(),()),pkF f,d,k,x,(Sp.aw f x 0 x.args.length,Sp.aw f x 1 x.args.length,Sp.aw f x 2 x.args.length,()),())) (fun i hi=>?_) ?_) ?_
 ·obtain⟨u1,u2⟩:=hu i hi;unfold go123_j3
  match i,hi,u1,u2 with
  |0,hi,u1,u2=>simp(maxSteps:=1000000) (disch:=((try dsimp only);omega)) only[↓gsA,gsB];simp[Sp.aw];rw[qak (by simpa using And.intro u1 u2)]
  |1,hi,u1,u2=>simp(maxSteps:=1000000) (disch:=((try dsimp only);omega)) only[↓gsA,gsB];simp[Sp.aw];rw[qak (by simpa using And.intro u1 u2)]
  |2,hi,u1,u2=>simp(maxSteps:=1000000) (disch:=((try dsimp only);omega)) only[↓gsA,gsB];simp[Sp.aw];rw[qak (by simpa using And.intro u1 u2)]
  |n+3,hi,_,_=>omega
 ·simp(maxSteps:=1000000) (disch:=((try dsimp only);omega)) only[↓gsA,gsB]
 ·generalize Sp.aw f x 0 x.args.length=a0;generalize Sp.aw f x 1 x.args.length=a1;generalize Sp.aw f x 2 x.args.length=a2;unfold Sp.zbx;simp only[qb8,qcp,zd4,qak hn,qaf,cond_false];by_cases h1:x.op=1
  ·simp[h1]
  by_cases h2:x.op=21
  ·simp[h2]
  by_cases h3:x.op=22
  ·simp[h3]
  by_cases h4:x.op=23
  ·simp[h4]
  simp[h1,h2,h3,h4]
theorem zd8(h:Sp.qxz f x):go123_j1 (((),(),m,()),pkF f,d,k,x,())=some (Sp.qx2 f x&&Sp.zbx x (Sp.zd9 f x) m (Sp.aw f x 0 x.args.length) (Sp.aw f x 1 x.args.length) (Sp.aw f x 2 x.args.length),pkF f,d,k,()):=by
 unfold go123_j1 Sp.qx2 Sp.zd9;simp only[qcp,zd6 h];cases h1:Sp.named x.op with
 |false=>
  by_cases h2:x.dest=-1<;>simp[h2]
 |true=>
  by_cases h2:x.dest<0
  ·simp[h2]
  by_cases h3:(f.qaa.length:Int)<=x.dest
  ·simp[h2,h3]
  rw[decide_eq_false h2,decide_eq_false h3];simp only[cond_true,cond_false,qak (show 0<=x.dest/\x.dest<(f.qaa.length:Int)by omega)];rfl
theorem ok123(x:qat)(f:Fn)(d:List Bool)(k:List Int)(h:Sp.qxz f x):go123 x (pkF f) d k=some (Sp.q8b f x,pkF f,d,k,()):=by
 unfold go123 Sp.q8b Sp.qsf;simp only[qcp,zd8 h,decide_true,zjq,qba];cases h1:(Sp.qtf f x).2 with
 |false=>rfl
 |true=>
  by_cases h2:x.num=0<;>by_cases h3:x.op=1<;>simp[h2,h3]
end
def c123:Ctr Try.prog:=qbl 123 Try.f123 Try.func123 [c53,c103,c133,c134] ann123 [(0,(.ptr 0 0)),(1,(.st 0))] [(.cells 107 [.s,(.fz (.int .i64)),(.fz (.st 4)),(.fz (.st 5)),(.fz (.int .i64)),(.fz (.st 3)),(.full 1),(.full 2)]),(.lst 4 .bool),(.lst 3 (.int .i64))] .b [(.cells 107 [.s,(.fz (.int .i64)),(.fz (.st 4)),(.fz (.st 5)),(.fz (.int .i64)),(.fz (.st 3)),(.full 1),(.full 2)]),(.lst 4 .bool),(.lst 3 (.int .i64))] (fun x y=>grd (okB (Sp.qxz (mkF y.1) x.2.1)) (some (Sp.q8b (mkF y.1) x.2.1,y.1,y.2.1,y.2.2.1,())))
 (fun x y r h=>FO (run123 x.2.1 y.1 y.2.1 y.2.2.1) (ok123 x.2.1 (mkF y.1) y.2.1 y.2.2.1) h)
end
end Go.Abs
namespace Go.Abs
open Go Go.Proofs
noncomputable section
def ann135:Ann:=(.seq .o (.join ⟨[(3,(.ptr 3 0)),(4,(.ptr 4 0))],[(.cells 107 [.s,(.fz (.int .i64)),(.fz (.st 4)),(.fz (.st 5)),(.fz (.int .i64)),(.fz (.st 3)),(.full 1),(.full 2)]),(.lst 4 .bool),(.lst 3 (.int .i64)),(.cells 105 [(.ptr 0 0)]),(.box 51 (.st 1))]⟩ (.seq .o (.cond (.seq .o .o) .o)) (.seq .o .o)))
def go135(x1:Edge)(x2:Int)(y0:ty148)(y1:(List Bool))(y2:(List Int)):(Option (Bool×ty149)):=(bif(decide (x1.block<1))then(some (false,((y0.1,(y0.2.1,(y0.2.2.1,(y0.2.2.2.1,(y0.2.2.2.2.1,(y0.2.2.2.2.2.1,((),((),())))))))),(y1,(y2,())))))else(bif(decide ((y0.2.2.2.2.2.1.length:Int)<=x1.block))then(some (false,((y0.1,(y0.2.1,(y0.2.2.1,(y0.2.2.2.1,(y0.2.2.2.2.1,(y0.2.2.2.2.2.1,((),((),())))))))),(y1,(y2,())))))else(qaj (grd (okB ((Bk x2)/\(x1.args.length<=LEN))) (some ((Sp.qgk y2 x1.args x2),((y0.1,(y0.2.1,(y0.2.2.1,(y0.2.2.2.1,(y0.2.2.2.2.1,(y0.2.2.2.2.2.1,((),((),())))))))),(y1,(y2,())))))) (fun r0=>(grd ((decide ((1:Nat)=1))&&((decide (r0.2.2.1.length=y1.length))&&((decide (r0.2.2.2.1.length=y2.length))&&true))) (bif(!r0.1)then(some (false,((r0.2.1.1,(r0.2.1.2.1,(r0.2.1.2.2.1,(r0.2.1.2.2.2.1,(r0.2.1.2.2.2.2.1,(r0.2.1.2.2.2.2.2.1,((),((),())))))))),(r0.2.2.1,(r0.2.2.2.1,())))))else(grd (okB ((0<=x1.block)/\(x1.block<(r0.2.1.2.2.2.2.2.1.length:Int)))) (qaj (grd (okB (Fn.q66 (mkF (r0.2.1.1,(r0.2.1.2.1,(r0.2.1.2.2.1,(r0.2.1.2.2.2.1,(r0.2.1.2.2.2.2.1,(r0.2.1.2.2.2.2.2.1,((),((),()))))))))) x1.args)) (some ((Sp.pairs (Sp.qg9 (mkF (r0.2.1.1,(r0.2.1.2.1,(r0.2.1.2.2.1,(r0.2.1.2.2.2.1,(r0.2.1.2.2.2.2.1,(r0.2.1.2.2.2.2.2.1,((),((),())))))))))) x1.args (r0.2.1.2.2.2.2.2.1.getD x1.block.toNat Block.z).params),(((),()),((r0.2.1.1,(r0.2.1.2.1,(r0.2.1.2.2.1,(r0.2.1.2.2.2.1,(r0.2.1.2.2.2.2.1,(r0.2.1.2.2.2.2.2.1,((),((),())))))))),(r0.2.2.1,(r0.2.2.2.1,()))))))) (fun r1=>(grd ((decide ((1:Nat)=1))&&((decide ((1:Nat)=1))&&((decide (r1.2.2.2.1.length=r0.2.2.1.length))&&((decide (r1.2.2.2.2.1.length=r0.2.2.2.1.length))&&true)))) (some (r1.1,((r1.2.2.1.1,(r1.2.2.1.2.1,(r1.2.2.1.2.2.1,(r1.2.2.1.2.2.2.1,(r1.2.2.1.2.2.2.2.1,(r1.2.2.1.2.2.2.2.2.1,((),((),())))))))),(r1.2.2.2.1,(r1.2.2.2.2.1,())))))))))))))))
theorem run135(x1:Edge)(x2:Int)(y0:(ByteArray×((List Int)×((List Arr)×((List qbd)×((List Int)×((List Block)×(Unit×(Unit×Unit)))))))))(y1:(List Bool))(y2:(List Int)):qdd (P:=Try.prog) [c122,c136] Try.f135 ann135 [(0,(.ptr 0 0)),(1,(.st 1)),(2,(.i .i64))] [(.cells 107 [.s,(.fz (.int .i64)),(.fz (.st 4)),(.fz (.st 5)),(.fz (.int .i64)),(.fz (.st 3)),(.full 1),(.full 2)]),(.lst 4 .bool),(.lst 3 (.int .i64))] .b [(.cells 107 [.s,(.fz (.int .i64)),(.fz (.st 4)),(.fz (.st 5)),(.fz (.int .i64)),(.fz (.st 3)),(.full 1),(.full 2)]),(.lst 4 .bool),(.lst 3 (.int .i64))] ((),(x1,(x2,()))) (y0,(y1,(y2,())))=go135 x1 x2 y0 y1 y2:=by kernel_rfl
theorem q59{k l:List Int}{b:Int}(h:Sp.qgk k l b=true){i:Nat}(hi:i<l.length):0<=l.getD i 0/\l.getD i 0<(k.length:Int)/\k.getD (l.getD i 0).toNat 0=b+1:=by
 have:=zjm.1 h l[i] (zj1 hi);simp only[zi4,zjo,decide_eq_false_iff_not,decide_eq_true_eq]at this;rw[zi5,zjc hi,zjv];exact⟨by omega,by omega,this.2.2⟩
theorem qqi{f:Fn}{k l:List Int}{b:Int}(hk:k.length=f.qaa.length)(hl:l.length<=LEN)(h:Sp.qgk k l b=true):f.q66 l:=
 ⟨hl,fun i hi=>by obtain⟨h1,h2,_⟩:=q59 h hi;exact⟨h1,by rw[<- hk];exact h2⟩⟩
def Sp.qk2(f:Fn)(k:List Int)(e:Edge)(b:Int):Bool:=!decide (e.block<1)&&(!decide ((f.blocks.length:Int)<=e.block)&&(Sp.qgk k e.args b&&Sp.pairs (Sp.qg9 f) e.args (f.blk e.block.toNat).params))
def Sp.q1z(f:Fn)(k:List Int)(l:List Int)(b:Int):Prop:=Bk b/\l.length<=LEN/\k.length=f.qaa.length
theorem ok135(e:Edge)(b:Int)(f:Fn)(d:List Bool)(k:List Int)(h:Sp.q1z f k e.args b):go135 e b (pkF f) d k=some (Sp.qk2 f k e b,pkF f,d,k,()):=by
 obtain⟨hb,hl,hk⟩:=h;unfold go135 Sp.qk2;by_cases h1:e.block<1
 ·simp[h1]
 by_cases h2:(f.blocks.length:Int)<=e.block
 ·simp[h1,h2]
 rw[decide_eq_false h1,decide_eq_false h2];simp only[cond_false,qak (And.intro hb hl),qaf,decide_true,zjq,qba,zj4,zjy];cases h3:Sp.qgk k e.args b with
 |false=>rfl
 |true=>
  have hw:=qqi (f:=f) hk hl h3;simp only[zju,cond_false,qak (show 0<=e.block/\e.block<(f.blocks.length:Int)by omega),qak (show Fn.q66 (mkF (pkF f)) e.args from hw),qaf,decide_true,zjq,qba,zjy]
def c135:Ctr Try.prog:=qbl 135 Try.f135 Try.func135 [c122,c136] ann135 [(0,(.ptr 0 0)),(1,(.st 1)),(2,(.i .i64))] [(.cells 107 [.s,(.fz (.int .i64)),(.fz (.st 4)),(.fz (.st 5)),(.fz (.int .i64)),(.fz (.st 3)),(.full 1),(.full 2)]),(.lst 4 .bool),(.lst 3 (.int .i64))] .b [(.cells 107 [.s,(.fz (.int .i64)),(.fz (.st 4)),(.fz (.st 5)),(.fz (.int .i64)),(.fz (.st 3)),(.full 1),(.full 2)]),(.lst 4 .bool),(.lst 3 (.int .i64))] (fun x y=>grd (okB (Sp.q1z (mkF y.1) y.2.2.1 x.2.1.args x.2.2.1)) (some (Sp.qk2 (mkF y.1) y.2.2.1 x.2.1 x.2.2.1,y.1,y.2.1,y.2.2.1,())))
 (fun x y r h=>FO (run135 x.2.1 x.2.2.1 y.1 y.2.1 y.2.2.1) (ok135 x.2.1 x.2.2.1 (mkF y.1) y.2.1 y.2.2.1) h)
end
end Go.Abs
namespace Go.Abs
open Go Go.Proofs
noncomputable section
def Sp.qqj(f:Fn)(k:List Int)(t:Term)(b:Int):Bool:=t.to.all (fun e=>Sp.qk2 f k e b) &&
 (if t.kind=1 then decide ((t.to.length:Int)=1)&&(decide (t.cond=-1)&&decide ((t.qax.length:Int)=0))
 else if t.kind=2 then decide ((t.to.length:Int)=2)&&(decide ((t.qax.length:Int)=0)&&(Sp.qgk k [t.cond] b&&decide (f.qaa.getD t.cond.toNat 0=1)))
 else if t.kind=3 then decide ((t.to.length:Int)=0)&&(decide (t.cond=-1)&&(Sp.qgk k t.qax b&&Sp.pairs (fun v w=>decide (f.qaa.getD v.toNat 0=w)) t.qax f.qax))
 else false)
abbrev DI:=List Bool×List Int
def Sp.qjh(b:Int)(s:DI)(v:Int):Option DI:=if Sp.qgs s.1 v=true then some (s.1.set v.toNat true,s.2.set v.toNat (b+1))else none
def Sp.qnx(f:Fn)(b:Int)(s:DI)(x:qat):Option DI:=
 if Sp.arity x.op=(x.args.length:Int)then(if Sp.qgk s.2 x.args b=true then(if Sp.q8b f x=true then(if Sp.named x.op=true then Sp.qjh b s x.dest else some s)else none)else none)else none
def Sp.zby(f:Fn)(b:Int)(s:DI)(x:Block):Option DI:=
 if Sp.qn6 x=true then(match qch (Sp.qjh b) x.params s with
  | some s1=>(match qch (Sp.qnx f b) x.insts s1 with
   |some s2=>if Sp.qqj f s2.2 x.term b=true then some s2 else none
   | none=>none)
  | none=>none)else none
def Sp.qql(f:Fn)(s:DI)(i:Nat):Option DI:=Sp.zby f i s (f.blk i)
def Sp.zak(f:Fn):Bool:=Sp.ident f.name&&(Sp.qsk f&&(!decide (65536<(f.qaa.length:Int))&&(!decide (64<(f.qax.length:Int))&&(!decide ((f.blocks.length:Int)<1)&&(!decide (1024<(f.blocks.length:Int))&&(f.qaa.all Sp.right&&f.qax.all Sp.right))))))
def Sp.q1t(f:Fn):Bool:=Sp.zak f&&(qch (Sp.qql f) (List.range f.blocks.length) (List.replicate f.qaa.length false,List.replicate f.qaa.length 0)).isSome
end
end Go.Abs
namespace Go.Abs
open Go Go.Proofs
noncomputable section
def ann124:Ann:=(.seq .o (.join sh165 (.seq .o (.block (.loop sh166 [((.exit 0),sh165),(.ret,sh167)] (.seq .o (.join sh166 (.cond .o .o) (.join sh166 (.block (.seq .o (.seq .o (.cond (.seq .o .o) .o)))) .o)))))) (.join ⟨[],sh176⟩ (.seq .o (.block (.seq .o (.cond (.seq .o .o) (.seq .o (.cond (.seq (.x ⟨false,false,false,false,[],[],[0,1,3,7,15,31,63,127,255,511,1023,2047,2047,6143,14335,2047,65535,131071,262143,524287,1048575,2097151,4194303,8388607,524287,17301503,67108863,134217727,268435455,536870911,1073741823],(.on 0 (.on 1 (.on 2 (.on 3 (.on 4 (.on 5 (.on 6 (.on 7 (.on 8 (.on 9 (.on 10 (.rd 11 (.fl 12 (.rd 13 (.fl 15 (.on 14 (.on 16 (.qu [17,18,19,20,21,22,23,24,25,26,27,28,29,30] .nil))))))))))))))))))⟩) .o) (.seq .o (.cond (.seq .o .o) .o)))))))) (.seq .o .o))))
def go124_l1:ty155->Option (ty155⊕(((Int×(Unit×(Unit×Unit)))×(ty148×((List Bool)×((List Int)×((Unit×Unit)×(Term×Unit))))))⊕((Bool×Unit)×ty149))):=(fun r0=>(bif(decide (r0.1.2.2.2.2.2.1<r0.1.2.2.2.2.1))then(grd (okB ((0<=r0.1.2.2.2.2.2.1)/\(r0.1.2.2.2.2.2.1<(r0.1.2.2.2.1.length:Int)))) (qaj (grd (okB (Sp.q1z (mkF (r0.2.1.1,(r0.2.1.2.1,(r0.2.1.2.2.1,(r0.2.1.2.2.2.1,(r0.2.1.2.2.2.2.1,(r0.2.1.2.2.2.2.2.1,((),((),()))))))))) r0.2.2.2.1 (r0.1.2.2.2.1.getD r0.1.2.2.2.2.2.1.toNat Edge.z).args r0.1.1)) (some ((Sp.qk2 (mkF (r0.2.1.1,(r0.2.1.2.1,(r0.2.1.2.2.1,(r0.2.1.2.2.2.1,(r0.2.1.2.2.2.2.1,(r0.2.1.2.2.2.2.2.1,((),((),()))))))))) r0.2.2.2.1 (r0.1.2.2.2.1.getD r0.1.2.2.2.2.2.1.toNat Edge.z) r0.1.1),((r0.2.1.1,(r0.2.1.2.1,(r0.2.1.2.2.1,(r0.2.1.2.2.2.1,(r0.2.1.2.2.2.2.1,(r0.2.1.2.2.2.2.2.1,((),((),())))))))),(r0.2.2.1,(r0.2.2.2.1,())))))) (fun r1=>(grd ((decide ((1:Nat)=1))&&((decide (r1.2.2.1.length=r0.2.2.1.length))&&((decide (r1.2.2.2.1.length=r0.2.2.2.1.length))&&true))) (bif(!r1.1)then(some (Sum.inr (Sum.inr ((false,()),((r1.2.1.1,(r1.2.1.2.1,(r1.2.1.2.2.1,(r1.2.1.2.2.2.1,(r1.2.1.2.2.2.2.1,(r1.2.1.2.2.2.2.2.1,((),((),())))))))),(r1.2.2.1,(r1.2.2.2.1,())))))))else(grd (okB (((-9223372036854775808)<=(r0.1.2.2.2.2.2.1+1))/\((r0.1.2.2.2.2.2.1+1)<=9223372036854775807))) (some (Sum.inl ((r0.1.1,((),((),(r0.1.2.2.2.1,(r0.1.2.2.2.2.1,((r0.1.2.2.2.2.2.1+1),())))))),((r1.2.1.1,(r1.2.1.2.1,(r1.2.1.2.2.1,(r1.2.1.2.2.2.1,(r1.2.1.2.2.2.2.1,(r1.2.1.2.2.2.2.2.1,((),((),())))))))),(r1.2.2.1,(r1.2.2.2.1,(((),()),(r0.2.2.2.2.2.1,()))))))))))))))else(some (Sum.inr (Sum.inl ((r0.1.1,((),((),()))),((r0.2.1.1,(r0.2.1.2.1,(r0.2.1.2.2.1,(r0.2.1.2.2.2.1,(r0.2.1.2.2.2.2.1,(r0.2.1.2.2.2.2.2.1,((),((),())))))))),(r0.2.2.1,(r0.2.2.2.1,(((),()),(r0.2.2.2.2.2.1,())))))))))))
def go124(x1:Term)(x2:Int)(y0:ty148)(y1:(List Bool))(y2:(List Int)):(Option (Bool×ty149)):=(qaj (qap (go124_l1) ((x2,((),((),(x1.to,((x1.to.length:Int),(0,())))))),((y0.1,(y0.2.1,(y0.2.2.1,(y0.2.2.2.1,(y0.2.2.2.2.1,(y0.2.2.2.2.2.1,((),((),())))))))),(y1,(y2,(((),()),(x1,()))))))) (fun z0=>(qgu (fun z1=>(bif(decide (z1.2.2.2.2.2.1.kind=1))then(bif(decide ((z1.2.2.2.2.2.1.to.length:Int)=1))then(bif(decide (z1.2.2.2.2.2.1.cond=(-1)))then(some ((decide ((z1.2.2.2.2.2.1.qax.length:Int)=0)),((z1.2.1.1,(z1.2.1.2.1,(z1.2.1.2.2.1,(z1.2.1.2.2.2.1,(z1.2.1.2.2.2.2.1,(z1.2.1.2.2.2.2.2.1,((),((),())))))))),(z1.2.2.1,(z1.2.2.2.1,())))))else(some (false,((z1.2.1.1,(z1.2.1.2.1,(z1.2.1.2.2.1,(z1.2.1.2.2.2.1,(z1.2.1.2.2.2.2.1,(z1.2.1.2.2.2.2.2.1,((),((),())))))))),(z1.2.2.1,(z1.2.2.2.1,()))))))else(some (false,((z1.2.1.1,(z1.2.1.2.1,(z1.2.1.2.2.1,(z1.2.1.2.2.2.1,(z1.2.1.2.2.2.2.1,(z1.2.1.2.2.2.2.2.1,((),((),())))))))),(z1.2.2.1,(z1.2.2.2.1,()))))))else(bif(decide (z1.2.2.2.2.2.1.kind=2))then(bif(decide ((z1.2.2.2.2.2.1.to.length:Int)=2))then(bif(decide ((z1.2.2.2.2.2.1.qax.length:Int)=0))then(qaj (grd (okB ((Bk z1.1.1)/\(1<=LEN))) (some ((Sp.qgk z1.2.2.2.1 (z1.2.2.2.2.2.1.cond::([]:List Int)) z1.1.1),((z1.2.1.1,(z1.2.1.2.1,(z1.2.1.2.2.1,(z1.2.1.2.2.2.1,(z1.2.1.2.2.2.2.1,(z1.2.1.2.2.2.2.2.1,((),((),())))))))),(z1.2.2.1,(z1.2.2.2.1,())))))) (fun r0=>(grd ((decide ((1:Nat)=1))&&((decide (r0.2.2.1.length=z1.2.2.1.length))&&((decide (r0.2.2.2.1.length=z1.2.2.2.1.length))&&true))) (bif r0.1 then(grd (okB ((0<=z1.2.2.2.2.2.1.cond)/\(z1.2.2.2.2.2.1.cond<(r0.2.1.2.1.length:Int)))) (some ((decide ((r0.2.1.2.1.getD z1.2.2.2.2.2.1.cond.toNat 0)=1)),((r0.2.1.1,(r0.2.1.2.1,(r0.2.1.2.2.1,(r0.2.1.2.2.2.1,(r0.2.1.2.2.2.2.1,(r0.2.1.2.2.2.2.2.1,((),((),())))))))),(r0.2.2.1,(r0.2.2.2.1,()))))))else(some (false,((r0.2.1.1,(r0.2.1.2.1,(r0.2.1.2.2.1,(r0.2.1.2.2.2.1,(r0.2.1.2.2.2.2.1,(r0.2.1.2.2.2.2.2.1,((),((),())))))))),(r0.2.2.1,(r0.2.2.2.1,())))))))))else(some (false,((z1.2.1.1,(z1.2.1.2.1,(z1.2.1.2.2.1,(z1.2.1.2.2.2.1,(z1.2.1.2.2.2.2.1,(z1.2.1.2.2.2.2.2.1,((),((),())))))))),(z1.2.2.1,(z1.2.2.2.1,()))))))else(some (false,((z1.2.1.1,(z1.2.1.2.1,(z1.2.1.2.2.1,(z1.2.1.2.2.2.1,(z1.2.1.2.2.2.2.1,(z1.2.1.2.2.2.2.2.1,((),((),())))))))),(z1.2.2.1,(z1.2.2.2.1,()))))))else(bif(decide (z1.2.2.2.2.2.1.kind=3))then(bif(decide ((z1.2.2.2.2.2.1.to.length:Int)=0))then(bif(decide (z1.2.2.2.2.2.1.cond=(-1)))then(qaj (grd (okB ((Bk z1.1.1)/\(z1.2.2.2.2.2.1.qax.length<=LEN))) (some ((Sp.qgk z1.2.2.2.1 z1.2.2.2.2.2.1.qax z1.1.1),((z1.2.1.1,(z1.2.1.2.1,(z1.2.1.2.2.1,(z1.2.1.2.2.2.1,(z1.2.1.2.2.2.2.1,(z1.2.1.2.2.2.2.2.1,((),((),())))))))),(z1.2.2.1,(z1.2.2.2.1,())))))) (fun r0=>(grd ((decide ((1:Nat)=1))&&((decide (r0.2.2.1.length=z1.2.2.1.length))&&((decide (r0.2.2.2.1.length=z1.2.2.2.1.length))&&true))) (bif r0.1 then(qaj (grd (okB (Fn.q66 (mkF (r0.2.1.1,(r0.2.1.2.1,(r0.2.1.2.2.1,(r0.2.1.2.2.2.1,(r0.2.1.2.2.2.2.1,(r0.2.1.2.2.2.2.2.1,((),((),()))))))))) z1.2.2.2.2.2.1.qax)) (some ((Sp.pairs (fun v0=>(fun w0=>(decide (((mkF (r0.2.1.1,(r0.2.1.2.1,(r0.2.1.2.2.1,(r0.2.1.2.2.2.1,(r0.2.1.2.2.2.2.1,(r0.2.1.2.2.2.2.2.1,((),((),()))))))))).qaa.getD v0.toNat 0)=w0)))) z1.2.2.2.2.2.1.qax r0.2.1.2.2.2.2.1),(((),()),((r0.2.1.1,(r0.2.1.2.1,(r0.2.1.2.2.1,(r0.2.1.2.2.2.1,(r0.2.1.2.2.2.2.1,(r0.2.1.2.2.2.2.2.1,((),((),())))))))),(r0.2.2.1,(r0.2.2.2.1,()))))))) (fun r1=>(grd ((decide ((1:Nat)=1))&&((decide ((1:Nat)=1))&&((decide (r1.2.2.2.1.length=r0.2.2.1.length))&&((decide (r1.2.2.2.2.1.length=r0.2.2.2.1.length))&&true)))) (some (r1.1,((r1.2.2.1.1,(r1.2.2.1.2.1,(r1.2.2.1.2.2.1,(r1.2.2.1.2.2.2.1,(r1.2.2.1.2.2.2.2.1,(r1.2.2.1.2.2.2.2.2.1,((),((),())))))))),(r1.2.2.2.1,(r1.2.2.2.2.1,()))))))))else(some (false,((r0.2.1.1,(r0.2.1.2.1,(r0.2.1.2.2.1,(r0.2.1.2.2.2.1,(r0.2.1.2.2.2.2.1,(r0.2.1.2.2.2.2.2.1,((),((),())))))))),(r0.2.2.1,(r0.2.2.2.1,())))))))))else(some (false,((z1.2.1.1,(z1.2.1.2.1,(z1.2.1.2.2.1,(z1.2.1.2.2.2.1,(z1.2.1.2.2.2.2.1,(z1.2.1.2.2.2.2.2.1,((),((),())))))))),(z1.2.2.1,(z1.2.2.2.1,()))))))else(some (false,((z1.2.1.1,(z1.2.1.2.1,(z1.2.1.2.2.1,(z1.2.1.2.2.2.1,(z1.2.1.2.2.2.2.1,(z1.2.1.2.2.2.2.2.1,((),((),())))))))),(z1.2.2.1,(z1.2.2.2.1,()))))))else(some (false,((z1.2.1.1,(z1.2.1.2.1,(z1.2.1.2.2.1,(z1.2.1.2.2.2.1,(z1.2.1.2.2.2.2.1,(z1.2.1.2.2.2.2.2.1,((),((),())))))))),(z1.2.2.1,(z1.2.2.2.1,()))))))))) (fun z1=>(some (z1.1.1,((z1.2.1.1,(z1.2.1.2.1,(z1.2.1.2.2.1,(z1.2.1.2.2.2.1,(z1.2.1.2.2.2.2.1,(z1.2.1.2.2.2.2.2.1,((),((),())))))))),(z1.2.2.1,(z1.2.2.2.1,())))))) z0)))
theorem run124(x1:Term)(x2:Int)(y0:(ByteArray×((List Int)×((List Arr)×((List qbd)×((List Int)×((List Block)×(Unit×(Unit×Unit)))))))))(y1:(List Bool))(y2:(List Int)):qdd (P:=Try.prog) [c122,c135,ze1] Try.f124 ann124 [(0,(.ptr 0 0)),(1,(.st 2)),(2,(.i .i64))] [(.cells 107 [.s,(.fz (.int .i64)),(.fz (.st 4)),(.fz (.st 5)),(.fz (.int .i64)),(.fz (.st 3)),(.full 1),(.full 2)]),(.lst 4 .bool),(.lst 3 (.int .i64))] .b [(.cells 107 [.s,(.fz (.int .i64)),(.fz (.st 4)),(.fz (.st 5)),(.fz (.int .i64)),(.fz (.st 3)),(.full 1),(.full 2)]),(.lst 4 .bool),(.lst 3 (.int .i64))] ((),(x1,(x2,()))) (y0,(y1,(y2,())))=go124 x1 x2 y0 y1 y2:=by kernel_rfl
def Sp.q1u(f:Fn)(k:List Int)(t:Term)(b:Int):Prop:=t.ok/\Bk b/\k.length=f.qaa.length
theorem zac(t:Term)(b:Int)(f:Fn)(d:List Bool)(k:List Int)(h:Sp.q1u f k t b):qap go124_l1 ((b,(),(),t.to,((t.to.length:Nat):Int),(0:Int),()),pkF f,d,k,((),()),t,()) =
  some (if t.to.all (fun e=>Sp.qk2 f k e b)then Sum.inl ((b,(),(),()),pkF f,d,k,((),()),t,())else Sum.inr ((false,()),pkF f,d,k,())):=by
 obtain⟨ht,hb,hk⟩:=h;have hl:=ht.2.2.1.len;rw[qcl]at hl;unfold go124_l1;refine qa6 (l:=t.to) (st:=fun i=>((b,(),(),t.to,((t.to.length:Nat):Int),(i:Int),()),pkF f,d,k,((),()),t,())) rfl Edge.z (fun e=>Sp.qk2 f k e b) (A:=Sum.inl ((b,(),(),()),pkF f,d,k,((),()),t,())) (B:=Sum.inr ((false,()),pkF f,d,k,())) (fun i hi hp=>?_) (fun i hi hp=>?_) (fun _=>?_)
 ·have he:Edge.ok (t.to.getD i Edge.z):=qgm ht.2.2.1 _ hi;have hp:Sp.qk2 (mkF (pkF f)) k (t.to.getD i Edge.z) b=true:=hp;simp only[zja,qak (show Sp.q1z (mkF (pkF f)) k (t.to.getD i Edge.z).args b from⟨hb,he.2.len,hk⟩),qaf,decide_true,zjq,qba,hp];simp(maxSteps:=1000000) (disch:=((try dsimp only);omega)) only[↓gsA,gsB]
 ·have he:Edge.ok (t.to.getD i Edge.z):=qgm ht.2.2.1 _ hi;have hp:Sp.qk2 (mkF (pkF f)) k (t.to.getD i Edge.z) b=false:=hp;simp only[zja,qak (show Sp.q1z (mkF (pkF f)) k (t.to.getD i Edge.z).args b from⟨hb,he.2.len,hk⟩),qaf,decide_true,zjq,qba,hp];simp(maxSteps:=1000000) (disch:=((try dsimp only);omega)) only[↓gsA,gsB]
 ·simp(maxSteps:=1000000) (disch:=((try dsimp only);omega)) only[↓gsA,gsB]
theorem ok124(t:Term)(b:Int)(f:Fn)(d:List Bool)(k:List Int)(h:Sp.q1u f k t b):go124 t b (pkF f) d k=some (Sp.qqj f k t b,pkF f,d,k,()):=by
 have h0:=h;obtain⟨ht,hb,hk⟩:=h;have hrl:=ht.2.2.2.len;unfold go124 Sp.qqj;refine qa5 (zac t b f d k h0) ?_;cases t.to.all (fun e=>Sp.qk2 f k e b)with
 |false=>rfl
 |true=>
  rw[if_pos rfl,qdb,zjy];by_cases h1:t.kind=1
  ·by_cases a:(t.to.length:Int)=1<;>by_cases c:t.cond=-1<;>simp[h1,a,c]
  by_cases h2:t.kind=2
  ·simp only[h2,decide_true,cond_true,if_true,show ¬ ((2:Int)=1)by decide,decide_false,cond_false,if_false,qak (And.intro hb (show 1<=LEN by rw[qcl];decide)),qaf,zjq,qba]
   by_cases a:(t.to.length:Int)=2
   rotate_left
   ·simp[a]
   by_cases c:(t.qax.length:Int)=0
   rotate_left
   ·simp only[a,c,decide_true,decide_false,cond_true,cond_false,zjy,Bool.false_and]
   simp only[a,c,decide_true,cond_true,zjy];cases h3:Sp.qgk k [t.cond] b with
   |false=>rfl
   |true=>
    obtain⟨w1,w2⟩:=(qqi (f:=f) hk (by rw[qcl];simp) h3).2 0 (by simp)
    simp only[List.getD_cons_zero]at w1 w2;simp only[cond_true,zjy];rw[qak ⟨w1,w2⟩]
  by_cases h3:t.kind=3
  ·simp only[h3,decide_true,cond_true,if_true,show ¬ ((3:Int)=1)by decide,show ¬ ((3:Int)=2)by decide,decide_false,cond_false,if_false,qak (And.intro hb hrl),qaf,zjq,qba];by_cases a:(t.to.length:Int)=0
   rotate_left
   ·simp only[a,decide_false,cond_false,Bool.false_and]
   by_cases c:t.cond=-1
   rotate_left
   ·simp only[a,c,decide_true,decide_false,cond_true,cond_false,zjy,Bool.false_and]
   simp only[a,c,decide_true,cond_true,zjy];cases h4:Sp.qgk k t.qax b with
   |false=>rfl
   |true=>
    have hw:=qqi (f:=f) hk hrl h4;simp only[cond_true,zjy,qak (show Fn.q66 (mkF (pkF f)) t.qax from hw),qaf];simp only[decide_true,zjq,qba]
  simp[h1,h2,h3]
def c124:Ctr Try.prog:=qbl 124 Try.f124 Try.func124 [c122,c135,ze1] ann124 [(0,(.ptr 0 0)),(1,(.st 2)),(2,(.i .i64))] [(.cells 107 [.s,(.fz (.int .i64)),(.fz (.st 4)),(.fz (.st 5)),(.fz (.int .i64)),(.fz (.st 3)),(.full 1),(.full 2)]),(.lst 4 .bool),(.lst 3 (.int .i64))] .b [(.cells 107 [.s,(.fz (.int .i64)),(.fz (.st 4)),(.fz (.st 5)),(.fz (.int .i64)),(.fz (.st 3)),(.full 1),(.full 2)]),(.lst 4 .bool),(.lst 3 (.int .i64))] (fun x y=>grd (okB (Sp.q1u (mkF y.1) y.2.2.1 x.2.1 x.2.2.1)) (some (Sp.qqj (mkF y.1) y.2.2.1 x.2.1 x.2.2.1,y.1,y.2.1,y.2.2.1,())))
 (fun x y r h=>FO (run124 x.2.1 x.2.2.1 y.1 y.2.1 y.2.2.1) (ok124 x.2.1 x.2.2.1 (mkF y.1) y.2.1 y.2.2.1) h)
end
end Go.Abs
namespace Go.Abs
open Go Go.Proofs
noncomputable section
def ann85:Ann:=(.seq .o (.join sh168 (.seq .o (.cond (.seq .o .o) .o)) (.join sh168 (.seq .o (.block (.loop sh169 [((.exit 0),sh168),(.ret,sh167)] (.seq .o (.join sh169 (.cond .o .o) (.join sh169 (.block (.seq .o (.seq .o (.cond (.seq .o .o) .o)))) .o)))))) (.join sh168 (.seq .o (.block (.loop sh170 [((.exit 2),sh168),(.ret,sh167)] (.seq .o (.join sh170 (.cond .o .o) (.join sh170 (.block (.seq .o (.seq .o (.cond (.seq .o .o) .o)))) .o)))))) (.seq .o .o)))))
def go85_j1:ty153->Option (ty153⊕ty156):=(fun z2=>(grd (okB (((-9223372036854775808)<=(z2.1.2.2.2.2.2.1+1))/\((z2.1.2.2.2.2.2.1+1)<=9223372036854775807))) (some (Sum.inl (((),(z2.1.2.1,((),(z2.1.2.2.2.1,(z2.1.2.2.2.2.1,((z2.1.2.2.2.2.2.1+1),())))))),((z2.2.1.1,(z2.2.1.2.1,(z2.2.1.2.2.1,(z2.2.1.2.2.2.1,(z2.2.1.2.2.2.2.1,(z2.2.1.2.2.2.2.2.1,((),((),())))))))),(z2.2.2.1,(z2.2.2.2.1,(z2.2.2.2.2.1,())))))))))
def go85_l2:ty153->Option (ty153⊕ty156):=(fun r0=>(bif(decide (r0.1.2.2.2.2.2.1<r0.1.2.2.2.2.1))then(jpO (go85_j1) (fun j0=>(grd (okB ((0<=r0.1.2.2.2.2.2.1)/\(r0.1.2.2.2.2.2.1<(r0.1.2.2.2.1.length:Int)))) (bif(!(decide ((Sp.arity (r0.1.2.2.2.1.getD r0.1.2.2.2.2.2.1.toNat qat.z).op)=(((r0.1.2.2.2.1.getD r0.1.2.2.2.2.2.1.toNat qat.z).args.length:Nat):Int))))then(some (Sum.inr (Sum.inr ((false,()),((r0.2.1.1,(r0.2.1.2.1,(r0.2.1.2.2.1,(r0.2.1.2.2.2.1,(r0.2.1.2.2.2.2.1,(r0.2.1.2.2.2.2.2.1,((),((),())))))))),(r0.2.2.1,(r0.2.2.2.1,())))))))else(qaj (grd (okB ((Bk r0.1.2.1)/\((r0.1.2.2.2.1.getD r0.1.2.2.2.2.2.1.toNat qat.z).args.length<=LEN))) (some ((Sp.qgk r0.2.2.2.1 (r0.1.2.2.2.1.getD r0.1.2.2.2.2.2.1.toNat qat.z).args r0.1.2.1),((r0.2.1.1,(r0.2.1.2.1,(r0.2.1.2.2.1,(r0.2.1.2.2.2.1,(r0.2.1.2.2.2.2.1,(r0.2.1.2.2.2.2.2.1,((),((),())))))))),(r0.2.2.1,(r0.2.2.2.1,())))))) (fun r1=>(grd ((decide ((1:Nat)=1))&&((decide (r1.2.2.1.length=r0.2.2.1.length))&&((decide (r1.2.2.2.1.length=r0.2.2.2.1.length))&&true))) (bif(!r1.1)then(some (Sum.inr (Sum.inr ((false,()),((r1.2.1.1,(r1.2.1.2.1,(r1.2.1.2.2.1,(r1.2.1.2.2.2.1,(r1.2.1.2.2.2.2.1,(r1.2.1.2.2.2.2.2.1,((),((),())))))))),(r1.2.2.1,(r1.2.2.2.1,())))))))else(qaj (grd (okB (Sp.qxz (mkF (r1.2.1.1,(r1.2.1.2.1,(r1.2.1.2.2.1,(r1.2.1.2.2.2.1,(r1.2.1.2.2.2.2.1,(r1.2.1.2.2.2.2.2.1,((),((),()))))))))) (r0.1.2.2.2.1.getD r0.1.2.2.2.2.2.1.toNat qat.z))) (some ((Sp.q8b (mkF (r1.2.1.1,(r1.2.1.2.1,(r1.2.1.2.2.1,(r1.2.1.2.2.2.1,(r1.2.1.2.2.2.2.1,(r1.2.1.2.2.2.2.2.1,((),((),()))))))))) (r0.1.2.2.2.1.getD r0.1.2.2.2.2.2.1.toNat qat.z)),((r1.2.1.1,(r1.2.1.2.1,(r1.2.1.2.2.1,(r1.2.1.2.2.2.1,(r1.2.1.2.2.2.2.1,(r1.2.1.2.2.2.2.2.1,((),((),())))))))),(r1.2.2.1,(r1.2.2.2.1,())))))) (fun r2=>(grd ((decide ((1:Nat)=1))&&((decide (r2.2.2.1.length=r1.2.2.1.length))&&((decide (r2.2.2.2.1.length=r1.2.2.2.1.length))&&true))) (bif(!r2.1)then(some (Sum.inr (Sum.inr ((false,()),((r2.2.1.1,(r2.2.1.2.1,(r2.2.1.2.2.1,(r2.2.1.2.2.2.1,(r2.2.1.2.2.2.2.1,(r2.2.1.2.2.2.2.2.1,((),((),())))))))),(r2.2.2.1,(r2.2.2.2.1,())))))))else(bif(Sp.named (r0.1.2.2.2.1.getD r0.1.2.2.2.2.2.1.toNat qat.z).op)then(qaj (grd (okB ((Bk r0.1.2.1)/\(r2.2.2.2.1.length=r2.2.2.1.length))) (some ((Sp.qgs r2.2.2.1 (r0.1.2.2.2.1.getD r0.1.2.2.2.2.2.1.toNat qat.z).dest),((r2.2.1.1,(r2.2.1.2.1,(r2.2.1.2.2.1,(r2.2.1.2.2.2.1,(r2.2.1.2.2.2.2.1,(r2.2.1.2.2.2.2.2.1,((),((),())))))))),((Sp.quf r2.2.2.1 (r0.1.2.2.2.1.getD r0.1.2.2.2.2.2.1.toNat qat.z).dest),((Sp.que r2.2.2.1 r2.2.2.2.1 (r0.1.2.2.2.1.getD r0.1.2.2.2.2.2.1.toNat qat.z).dest r0.1.2.1),())))))) (fun r3=>(grd ((decide ((1:Nat)=1))&&((decide (r3.2.2.1.length=r2.2.2.1.length))&&((decide (r3.2.2.2.1.length=r2.2.2.2.1.length))&&true))) (bif(!r3.1)then(some (Sum.inr (Sum.inr ((false,()),((r3.2.1.1,(r3.2.1.2.1,(r3.2.1.2.2.1,(r3.2.1.2.2.2.1,(r3.2.1.2.2.2.2.1,(r3.2.1.2.2.2.2.2.1,((),((),())))))))),(r3.2.2.1,(r3.2.2.2.1,())))))))else(j0 (((),(r0.1.2.1,((),(r0.1.2.2.2.1,(r0.1.2.2.2.2.1,(r0.1.2.2.2.2.2.1,())))))),((r3.2.1.1,(r3.2.1.2.1,(r3.2.1.2.2.1,(r3.2.1.2.2.2.1,(r3.2.1.2.2.2.2.1,(r3.2.1.2.2.2.2.2.1,((),((),())))))))),(r3.2.2.1,(r3.2.2.2.1,(r0.2.2.2.2.1,()))))))))))else(j0 (((),(r0.1.2.1,((),(r0.1.2.2.2.1,(r0.1.2.2.2.2.1,(r0.1.2.2.2.2.2.1,())))))),((r2.2.1.1,(r2.2.1.2.1,(r2.2.1.2.2.1,(r2.2.1.2.2.2.1,(r2.2.1.2.2.2.2.1,(r2.2.1.2.2.2.2.2.1,((),((),())))))))),(r2.2.2.1,(r2.2.2.2.1,(r0.2.2.2.2.1,())))))))))))))))))))else(some (Sum.inr (Sum.inl (((),(r0.1.2.1,((),()))),((r0.2.1.1,(r0.2.1.2.1,(r0.2.1.2.2.1,(r0.2.1.2.2.2.1,(r0.2.1.2.2.2.2.1,(r0.2.1.2.2.2.2.2.1,((),((),())))))))),(r0.2.2.1,(r0.2.2.2.1,(r0.2.2.2.2.1,()))))))))))
def go85_l1:((Unit×(Int×(Unit×((List Int)×(Int×(Int×Unit))))))×ty151)->Option (((Unit×(Int×(Unit×((List Int)×(Int×(Int×Unit))))))×ty151)⊕ty156):=(fun r0=>(bif(decide (r0.1.2.2.2.2.2.1<r0.1.2.2.2.2.1))then(grd (okB ((0<=r0.1.2.2.2.2.2.1)/\(r0.1.2.2.2.2.2.1<(r0.1.2.2.2.1.length:Int)))) (qaj (grd (okB ((Bk r0.1.2.1)/\(r0.2.2.2.1.length=r0.2.2.1.length))) (some ((Sp.qgs r0.2.2.1 (r0.1.2.2.2.1.getD r0.1.2.2.2.2.2.1.toNat 0)),((r0.2.1.1,(r0.2.1.2.1,(r0.2.1.2.2.1,(r0.2.1.2.2.2.1,(r0.2.1.2.2.2.2.1,(r0.2.1.2.2.2.2.2.1,((),((),())))))))),((Sp.quf r0.2.2.1 (r0.1.2.2.2.1.getD r0.1.2.2.2.2.2.1.toNat 0)),((Sp.que r0.2.2.1 r0.2.2.2.1 (r0.1.2.2.2.1.getD r0.1.2.2.2.2.2.1.toNat 0) r0.1.2.1),())))))) (fun r1=>(grd ((decide ((1:Nat)=1))&&((decide (r1.2.2.1.length=r0.2.2.1.length))&&((decide (r1.2.2.2.1.length=r0.2.2.2.1.length))&&true))) (bif(!r1.1)then(some (Sum.inr (Sum.inr ((false,()),((r1.2.1.1,(r1.2.1.2.1,(r1.2.1.2.2.1,(r1.2.1.2.2.2.1,(r1.2.1.2.2.2.2.1,(r1.2.1.2.2.2.2.2.1,((),((),())))))))),(r1.2.2.1,(r1.2.2.2.1,())))))))else(grd (okB (((-9223372036854775808)<=(r0.1.2.2.2.2.2.1+1))/\((r0.1.2.2.2.2.2.1+1)<=9223372036854775807))) (some (Sum.inl (((),(r0.1.2.1,((),(r0.1.2.2.2.1,(r0.1.2.2.2.2.1,((r0.1.2.2.2.2.2.1+1),())))))),((r1.2.1.1,(r1.2.1.2.1,(r1.2.1.2.2.1,(r1.2.1.2.2.2.1,(r1.2.1.2.2.2.2.1,(r1.2.1.2.2.2.2.2.1,((),((),())))))))),(r1.2.2.1,(r1.2.2.2.1,(r0.2.2.2.2.1,())))))))))))))else(some (Sum.inr (Sum.inl (((),(r0.1.2.1,((),()))),((r0.2.1.1,(r0.2.1.2.1,(r0.2.1.2.2.1,(r0.2.1.2.2.2.1,(r0.2.1.2.2.2.2.1,(r0.2.1.2.2.2.2.2.1,((),((),())))))))),(r0.2.2.1,(r0.2.2.2.1,(r0.2.2.2.2.1,()))))))))))
def go85(x1:Block)(x2:Int)(y0:ty148)(y1:(List Bool))(y2:(List Int)):(Option (Bool×ty149)):=(bif(decide (4096<(x1.insts.length:Int)))then(some (false,((y0.1,(y0.2.1,(y0.2.2.1,(y0.2.2.2.1,(y0.2.2.2.2.1,(y0.2.2.2.2.2.1,((),((),())))))))),(y1,(y2,())))))else(bif(decide (x1.qar<0))then(some (false,((y0.1,(y0.2.1,(y0.2.2.1,(y0.2.2.2.1,(y0.2.2.2.2.1,(y0.2.2.2.2.2.1,((),((),())))))))),(y1,(y2,())))))else(bif(decide (256<x1.qar))then(some (false,((y0.1,(y0.2.1,(y0.2.2.1,(y0.2.2.2.1,(y0.2.2.2.2.1,(y0.2.2.2.2.2.1,((),((),())))))))),(y1,(y2,())))))else(bif(decide (x1.qa9<0))then(some (false,((y0.1,(y0.2.1,(y0.2.2.1,(y0.2.2.2.1,(y0.2.2.2.2.1,(y0.2.2.2.2.2.1,((),((),())))))))),(y1,(y2,())))))else(bif(decide (64<x1.qa9))then(some (false,((y0.1,(y0.2.1,(y0.2.2.1,(y0.2.2.2.1,(y0.2.2.2.2.1,(y0.2.2.2.2.2.1,((),((),())))))))),(y1,(y2,())))))else(bif(decide (x1.line<0))then(some (false,((y0.1,(y0.2.1,(y0.2.2.1,(y0.2.2.2.1,(y0.2.2.2.2.1,(y0.2.2.2.2.2.1,((),((),())))))))),(y1,(y2,())))))else(bif(decide (2147483647<x1.line))then(some (false,((y0.1,(y0.2.1,(y0.2.2.1,(y0.2.2.2.1,(y0.2.2.2.2.1,(y0.2.2.2.2.2.1,((),((),())))))))),(y1,(y2,())))))else(qaj (qap (go85_l1) (((),(x2,((),(x1.params,((x1.params.length:Int),(0,())))))),((y0.1,(y0.2.1,(y0.2.2.1,(y0.2.2.2.1,(y0.2.2.2.2.1,(y0.2.2.2.2.2.1,((),((),())))))))),(y1,(y2,(x1,())))))) (fun z0=>(qgu (fun z1=>(qaj (qap (go85_l2) (((),(z1.1.2.1,((),(z1.2.2.2.2.1.insts,((z1.2.2.2.2.1.insts.length:Int),(0,())))))),((z1.2.1.1,(z1.2.1.2.1,(z1.2.1.2.2.1,(z1.2.1.2.2.2.1,(z1.2.1.2.2.2.2.1,(z1.2.1.2.2.2.2.2.1,((),((),())))))))),(z1.2.2.1,(z1.2.2.2.1,(z1.2.2.2.2.1,())))))) (fun z2=>(qgu (fun z3=>(qaj (grd (okB (Sp.q1u (mkF (z3.2.1.1,(z3.2.1.2.1,(z3.2.1.2.2.1,(z3.2.1.2.2.2.1,(z3.2.1.2.2.2.2.1,(z3.2.1.2.2.2.2.2.1,((),((),()))))))))) z3.2.2.2.1 (Term.mk z3.2.2.2.2.1.term.kind z3.2.2.2.2.1.term.cond z3.2.2.2.2.1.term.to z3.2.2.2.2.1.term.qax) z3.1.2.1)) (some ((Sp.qqj (mkF (z3.2.1.1,(z3.2.1.2.1,(z3.2.1.2.2.1,(z3.2.1.2.2.2.1,(z3.2.1.2.2.2.2.1,(z3.2.1.2.2.2.2.2.1,((),((),()))))))))) z3.2.2.2.1 (Term.mk z3.2.2.2.2.1.term.kind z3.2.2.2.2.1.term.cond z3.2.2.2.2.1.term.to z3.2.2.2.2.1.term.qax) z3.1.2.1),((z3.2.1.1,(z3.2.1.2.1,(z3.2.1.2.2.1,(z3.2.1.2.2.2.1,(z3.2.1.2.2.2.2.1,(z3.2.1.2.2.2.2.2.1,((),((),())))))))),(z3.2.2.1,(z3.2.2.2.1,())))))) (fun r0=>(grd ((decide ((1:Nat)=1))&&((decide (r0.2.2.1.length=z3.2.2.1.length))&&((decide (r0.2.2.2.1.length=z3.2.2.2.1.length))&&true))) (some (r0.1,((r0.2.1.1,(r0.2.1.2.1,(r0.2.1.2.2.1,(r0.2.1.2.2.2.1,(r0.2.1.2.2.2.2.1,(r0.2.1.2.2.2.2.2.1,((),((),())))))))),(r0.2.2.1,(r0.2.2.2.1,()))))))))) (fun z3=>(some (z3.1.1,((z3.2.1.1,(z3.2.1.2.1,(z3.2.1.2.2.1,(z3.2.1.2.2.2.1,(z3.2.1.2.2.2.2.1,(z3.2.1.2.2.2.2.2.1,((),((),())))))))),(z3.2.2.1,(z3.2.2.2.1,())))))) z2)))) (fun z1=>(some (z1.1.1,((z1.2.1.1,(z1.2.1.2.1,(z1.2.1.2.2.1,(z1.2.1.2.2.2.1,(z1.2.1.2.2.2.2.1,(z1.2.1.2.2.2.2.2.1,((),((),())))))))),(z1.2.2.1,(z1.2.2.2.1,())))))) z0))))))))))
theorem run85(x1:Block)(x2:Int)(y0:(ByteArray×((List Int)×((List Arr)×((List qbd)×((List Int)×((List Block)×(Unit×(Unit×Unit)))))))))(y1:(List Bool))(y2:(List Int)):qdd (P:=Try.prog) [c13,c53,c121,c122,c123,c124] Try.f85 ann85 [(0,(.ptr 0 0)),(1,(.st 3)),(2,(.i .i64))] [(.cells 107 [.s,(.fz (.int .i64)),(.fz (.st 4)),(.fz (.st 5)),(.fz (.int .i64)),(.fz (.st 3)),(.full 1),(.full 2)]),(.lst 4 .bool),(.lst 3 (.int .i64))] .b [(.cells 107 [.s,(.fz (.int .i64)),(.fz (.st 4)),(.fz (.st 5)),(.fz (.int .i64)),(.fz (.st 3)),(.full 1),(.full 2)]),(.lst 4 .bool),(.lst 3 (.int .i64))] ((),(x1,(x2,()))) (y0,(y1,(y2,())))=go85 x1 x2 y0 y1 y2:=by kernel_rfl
def qcu{σ α:Type}(g:σ->α->Option σ):List α->σ->Bool×σ
 |[],s=>(true,s)
 |a::l,s=>match g s a with
  |some s'=>qcu g l s'
  |none=>(false,s)
theorem quh{σ α:Type}(g:σ->α->Option σ):∀(l:List α) (s:σ),qch g l s=bif(qcu g l s).1 then some (qcu g l s).2 else none
 |[],s=>rfl
 |a::l,s=>by
  simp only[qch,qcu];cases g s a with
  |none=>rfl
  |some s'=>exact quh g l s'
theorem qhl{σ α:Type}{g:σ->α->Option σ}{I:σ->Prop}(hI:∀s a s',I s->g s a=some s'->I s'):∀(l:List α) (s:σ),I s->I (qcu g l s).2
 |[],s,h=>h
 |a::l,s,h=>by
  simp only[qcu];cases hg:g s a with
  |none=>exact h
  |some s'=>exact qhl hI l s' (hI s a s' h hg)
theorem qkl{σ β D X:Type}{f:D->Option (D⊕X)}{l:List β}{y0:D}(z:β)(g:σ->β->Option σ)(I:σ->Prop){st:Nat->σ->D}{s0:σ}(hy:y0=st 0 s0)(h0:I s0)(hI:∀s a s',I s->g s a=some s'->I s')(A B:σ->X)
  (h1:∀i s,i<l.length->I s->f (st i s)=some (qdk (g s (l.getD i z)) (fun s'=>.inl (st (i+1) s')) (.inr (B s)))) (h2:∀s,I s->f (st l.length s)=some (.inr (A s))) :
  qap f y0=some (bif(qcu g l s0).1 then A (qcu g l s0).2 else B (qcu g l s0).2):=by
 subst hy;have key:∀(r:List β) (i:Nat) (s:σ),l.drop i=r->i+r.length=l.length->I s->qap f (st i s)=some (bif(qcu g r s).1 then A (qcu g r s).2 else B (qcu g r s).2):=by
  intro r
  induction r with
  |nil=>
   intro i s hd hi hs;rw[qbt,show i=l.length by simpa using hi,h2 s hs];rfl
  |cons a r ih=>
   intro i s hd hi hs;have hlt:i<l.length:=by simp at hi;omega
   have ha:l.getD i z=a:=by
    have:=congrArg (·[0]?) hd;simp only[List.getElem?_drop,zka,List.getElem?_cons_zero]at this;rw[zi5,this];rfl
   have hdrop:l.drop (i+1)=r:=by
    have:=congrArg (·.drop 1) hd;simpa[List.drop_drop,zkk]using this
   rw[qbt,h1 i s hlt hs,ha];simp only[qcu];cases hg:g s a with
   |none=>rfl
   |some s'=>exact ih (i+1) s' hdrop (by simp at hi;omega) (hI s a s' hs hg)
 exact key l 0 s0 rfl (by simp) h0
def Sp.qfq(f:Fn)(b:Int)(s:DI)(x:Block):Bool×DI:=
 if Sp.qn6 x=true then(bif(qcu (Sp.qjh b) x.params s).1 then(bif(qcu (Sp.qnx f b) x.insts (qcu (Sp.qjh b) x.params s).2).1
  then(Sp.qqj f (qcu (Sp.qnx f b) x.insts (qcu (Sp.qjh b) x.params s).2).2.2 x.term b,(qcu (Sp.qnx f b) x.insts (qcu (Sp.qjh b) x.params s).2).2)
  else(false,(qcu (Sp.qnx f b) x.insts (qcu (Sp.qjh b) x.params s).2).2))else(false,(qcu (Sp.qjh b) x.params s).2))else(false,s)
theorem q8c(f:Fn)(b:Int)(s:DI)(x:Block):Sp.zby f b s x=bif(Sp.qfq f b s x).1 then some (Sp.qfq f b s x).2 else none:=by
 unfold Sp.zby Sp.qfq;by_cases h:Sp.qn6 x=true
 rotate_left
 ·rw[if_neg h,if_neg h];rfl
 rw[if_pos h,if_pos h,quh];cases(qcu (Sp.qjh b) x.params s).1 with
 |false=>rfl
 |true=>
  simp only[cond_true,quh];cases(qcu (Sp.qnx f b) x.insts (qcu (Sp.qjh b) x.params s).2).1 with
  |false=>rfl
  |true=>
   simp only[cond_true];cases Sp.qqj f (qcu (Sp.qnx f b) x.insts (qcu (Sp.qjh b) x.params s).2).2.2 x.term b<;>rfl
def DIn(n:Nat)(s:DI):Prop:=s.1.length=n/\s.2.length=n
theorem qqq{n:Nat}{b:Int}:∀(s:DI) (v:Int) (s':DI),DIn n s->Sp.qjh b s v=some s'->DIn n s':=fun s v s' h e=>by
 unfold Sp.qjh at e;split at e
 ·injection e with e;subst e;exact⟨by simpa using h.1,by simpa using h.2⟩
 ·cases e
theorem qud{f:Fn}{n:Nat}{b:Int}:∀(s:DI) (x:qat) (s':DI),DIn n s->Sp.qnx f b s x=some s'->DIn n s':=fun s x s' h e=>by
 unfold Sp.qnx at e
 repeat' split at e
 all_goals first|(cases e;done)|(injection e with e;exact e▸h)|exact qqq s _ s' h e
section
variable {f:Fn} {b:Int} {d:List Bool} {k:List Int} {x:Block}
theorem q90(hx:x.ok)(hb:Bk b)(h:DIn f.qaa.length (d,k)):qap go85_l1 (((),b,(),x.params,((x.params.length:Nat):Int),(0:Int),()),pkF f,d,k,x,()) =
  some (bif(qcu (Sp.qjh b) x.params (d,k)).1 then Sum.inl (((),b,(),()),pkF f,(qcu (Sp.qjh b) x.params (d,k)).2.1,(qcu (Sp.qjh b) x.params (d,k)).2.2,x,())else Sum.inr ((false,()),pkF f,(qcu (Sp.qjh b) x.params (d,k)).2.1,(qcu (Sp.qjh b) x.params (d,k)).2.2,())):=by
 have hl:=hx.1.len;rw[qcl]at hl;unfold go85_l1;refine qkl (l:=x.params) 0 (Sp.qjh b) (DIn f.qaa.length) (st:=fun i (s:DI)=>(((),b,(),x.params,((x.params.length:Nat):Int),(i:Int),()),pkF f,s.1,s.2,x,())) (s0:=(d,k)) rfl h qqq (fun s=>Sum.inl (((),b,(),()),pkF f,s.1,s.2,x,())) (fun s=>Sum.inr ((false,()),pkF f,s.1,s.2,())) (fun i s hi hs=>?_) (fun s hs=>?_)
 ·have hs':s.2.length=s.1.length:=by rw[hs.1,hs.2]
  simp only[zja,qak (And.intro hb hs'),qaf];unfold Sp.qjh Sp.quf Sp.que;cases hq:Sp.qgs s.1 (x.params.getD i 0)with
  |false=>
   simp only[zjw,if_false,decide_true,zjq,qba];simp(maxSteps:=1000000) (disch:=((try dsimp only);omega)) only[↓gsA,gsB]
   rfl
  |true=>
   simp only[if_true,List.length_set,decide_true,zjq,qba];simp(maxSteps:=1000000) (disch:=((try dsimp only);omega)) only[↓gsA,gsB]
   rfl
 ·simp(maxSteps:=1000000) (disch:=((try dsimp only);omega)) only[↓gsA,gsB]
theorem q9z(hx:x.ok)(hb:Bk b)(h:DIn f.qaa.length (d,k)):qap go85_l2 (((),b,(),x.insts,((x.insts.length:Nat):Int),(0:Int),()),pkF f,d,k,x,()) =
  some (bif(qcu (Sp.qnx f b) x.insts (d,k)).1 then Sum.inl (((),b,(),()),pkF f,(qcu (Sp.qnx f b) x.insts (d,k)).2.1,(qcu (Sp.qnx f b) x.insts (d,k)).2.2,x,())else Sum.inr ((false,()),pkF f,(qcu (Sp.qnx f b) x.insts (d,k)).2.1,(qcu (Sp.qnx f b) x.insts (d,k)).2.2,())):=by
 have hl:=hx.2.1.len;rw[qcl]at hl;unfold go85_l2 go85_j1;refine qkl (l:=x.insts) qat.z (Sp.qnx f b) (DIn f.qaa.length) (st:=fun i (s:DI)=>(((),b,(),x.insts,((x.insts.length:Nat):Int),(i:Int),()),pkF f,s.1,s.2,x,())) (s0:=(d,k)) rfl h qud (fun s=>Sum.inl (((),b,(),()),pkF f,s.1,s.2,x,())) (fun s=>Sum.inr ((false,()),pkF f,s.1,s.2,())) (fun i s hi hs=>?_) (fun s hs=>?_)
 ·have hs':s.2.length=s.1.length:=by rw[hs.1,hs.2]
  have hy:(x.insts.getD i qat.z).ok:=qgm hx.2.1 _ hi;dsimp only;rw[zja];generalize x.insts.getD i qat.z=y at hy ⊢;have hal:=hy.2.2.1.len;simp only[qak (And.intro hb hal),qak (And.intro hb hs'),qaf];unfold Sp.qnx;by_cases ha:Sp.arity y.op=(y.args.length:Int)
  rotate_left
  ·simp only[qcp,if_neg ha,decide_eq_false ha];simp(maxSteps:=1000000) (disch:=((try dsimp only);omega)) only[↓gsA,gsB]
   rfl
  simp only[qcp,if_pos ha,decide_eq_true ha];cases hu:Sp.qgk s.2 y.args b with
  |false=>
   simp(maxSteps:=1000000) (disch:=((try dsimp only);omega)) only[↓gsA,gsB]
   simp only[decide_true,zjq,qba];rfl
  |true=>
   have hw:=qqi (f:=f) hs.2 hal hu;have pre:Sp.qxz (mkF (pkF f)) y:=⟨by have:=qw7 y.op;omega,hw.2,hy.2.2.2.1⟩
   simp only[qak pre,qaf,decide_true,zjq,qba,if_true];cases hq:Sp.q8b f y with
   |false=>
    simp(maxSteps:=1000000) (disch:=((try dsimp only);omega)) only[↓gsA,gsB]
    rfl
   |true=>
    cases hn:Sp.named y.op with
    |false=>
     simp(maxSteps:=1000000) (disch:=((try dsimp only);omega)) only[↓gsA,gsB]
     rfl
    |true=>
     unfold Sp.qjh Sp.quf Sp.que;cases ho:Sp.qgs s.1 y.dest with
     |false=>
      simp only[cond_true,cond_false,qaf,zju,qak (And.intro hb hs'),zjw,if_false,decide_true,zjq,qba];simp(maxSteps:=1000000) (disch:=((try dsimp only);omega)) only[↓gsA,gsB]
      rfl
     |true=>
      simp only[cond_true,cond_false,qaf,zju,qak (And.intro hb hs'),if_true,List.length_set,decide_true,zjq,qba];simp(maxSteps:=1000000) (disch:=((try dsimp only);omega)) only[↓gsA,gsB]
      rfl
 ·simp(maxSteps:=1000000) (disch:=((try dsimp only);omega)) only[↓gsA,gsB]
theorem ok85(x:Block)(b:Int)(f:Fn)(d:List Bool)(k:List Int)(h:x.ok/\Bk b/\DIn f.qaa.length (d,k)):go85 x b (pkF f) d k=some ((Sp.qfq f b (d,k) x).1,pkF f,(Sp.qfq f b (d,k) x).2.1,(Sp.qfq f b (d,k) x).2.2,()):=by
 obtain⟨hx,hb,hd⟩:=h;unfold go85 Sp.qfq Sp.qn6;by_cases a1:4096<(x.insts.length:Int)
 ·simp[a1]
 by_cases a2:x.qar<0
 ·simp[a2,a1]
 by_cases a3:256<x.qar
 ·simp[a3,a1,a2]
 by_cases a4:x.qa9<0
 ·simp[a4,a1,a2,a3]
 by_cases a5:64<x.qa9
 ·simp[a5,a1,a2,a3,a4]
 by_cases a6:x.line<0
 ·simp[a6,a1,a2,a3,a4,a5]
 by_cases a7:2147483647<x.line
 ·simp[a7,a1,a2,a3,a4,a5,a6]
 simp only[decide_eq_false a1,decide_eq_false a2,decide_eq_false a3,decide_eq_false a4,decide_eq_false a5,decide_eq_false a6,decide_eq_false a7,cond_false,zj4,Bool.and_self,if_true];refine qa5 (q90 hx hb hd) ?_;have i1:=qhl (qqq (b:=b)) x.params (d,k) hd;generalize qcu (Sp.qjh b) x.params (d,k)=r1 at i1 ⊢;obtain⟨r,d1,k1⟩:=r1;cases r with
 |false=>rfl
 |true=>
  simp only[cond_true,qdb];refine qa5 (q9z hx hb i1) ?_;have i2:=qhl (qud (f:=f) (b:=b)) x.insts (d1,k1) i1;generalize qcu (Sp.qnx f b) x.insts (d1,k1)=r2 at i2 ⊢;obtain⟨r,d2,k2⟩:=r2;cases r with
  |false=>rfl
  |true=>
   simp only[cond_true,qdb];have pre:Sp.q1u (mkF (pkF f)) k2 (Term.mk x.term.kind x.term.cond x.term.to x.term.qax) b:=⟨hx.2.2.1,hb,i2.2⟩
   rw[qak pre];simp only[qaf,decide_true,zjq,qba]
end
def c85:Ctr Try.prog:=qbl 85 Try.f85 Try.func85 [c13,c53,c121,c122,c123,c124] ann85 [(0,(.ptr 0 0)),(1,(.st 3)),(2,(.i .i64))] [(.cells 107 [.s,(.fz (.int .i64)),(.fz (.st 4)),(.fz (.st 5)),(.fz (.int .i64)),(.fz (.st 3)),(.full 1),(.full 2)]),(.lst 4 .bool),(.lst 3 (.int .i64))] .b [(.cells 107 [.s,(.fz (.int .i64)),(.fz (.st 4)),(.fz (.st 5)),(.fz (.int .i64)),(.fz (.st 3)),(.full 1),(.full 2)]),(.lst 4 .bool),(.lst 3 (.int .i64))] (fun x y=>grd (okB (x.2.1.ok/\Bk x.2.2.1/\DIn (mkF y.1).qaa.length (y.2.1,y.2.2.1))) (some ((Sp.qfq (mkF y.1) x.2.2.1 (y.2.1,y.2.2.1) x.2.1).1,y.1,(Sp.qfq (mkF y.1) x.2.2.1 (y.2.1,y.2.2.1) x.2.1).2.1,(Sp.qfq (mkF y.1) x.2.2.1 (y.2.1,y.2.2.1) x.2.1).2.2,())))
 (fun x y r h=>FO (run85 x.2.1 x.2.2.1 y.1 y.2.1 y.2.2.1) (ok85 x.2.1 x.2.2.1 (mkF y.1) y.2.1 y.2.2.1) h)
end
end Go.Abs
namespace Go.Abs
open Go Go.Proofs
noncomputable section
def Sp.bit(b:Bool):Int:=if b=true then 1 else 0
def Sp.qq5(y n:Nat):List Int:=(List.range n).map fun i=>Sp.bit (y.testBit i)
theorem q3g(y n:Nat):(Sp.qq5 y n).length=n:=by simp[Sp.qq5]
theorem q3h{y n i:Nat}(h:i<n):(Sp.qq5 y n).getD i 0=Sp.bit (y.testBit i):=by simp[Sp.qq5,zi5,h]
theorem q3j(y i:Nat):Sp.bit (y.testBit i)=((y/2^i % 2:Nat):Int):=by
 rw[Nat.testBit_eq_decide_div_mod_eq];rcases Nat.mod_two_eq_zero_or_one (y/2^i)with h|h<;>simp[Sp.bit,h]
theorem qwm{m:Nat}(h:m<18446744073709551616):∀k,Sp.half m k=((m/2^k:Nat):Int)
 |0=>by simp[Sp.half]
 |k+1=>by
  have h1:m/2^k/2<=m:=zj6 (Nat.div_le_self _ _) (Nat.div_le_self _ _);simp only[Sp.half,qwm h k];rw[Nat.pow_succ,<- Nat.div_div_eq_div_mul];generalize m/2^k=q at *;rw[Int.tdiv_eq_ediv_of_nonneg (by omega),wrap64];omega
theorem q3i{x:Int}(hx:U64 x)(n:Nat):Sp.qhq x n=Sp.qq5 x.toNat n:=by
 obtain⟨m,rfl⟩:=zk3 hx.1;have hm:m<18446744073709551616:=by have:=hx.2;omega
 simp only[Sp.qhq,Sp.qq5,zja];refine zj2 fun i _=>?_;rw[qwm hm,q3j,Int.tmod_eq_emod_of_nonneg (Int.natCast_nonneg _)];exact(Int.natCast_emod _ _).symm
theorem qyy{y n:Nat}(hn:n<=64):∀k,k<=n->Sp.wd (Sp.qq5 y n) k=(((y % 2^n)/2^(n-k):Nat):Int)
 |0,_=>by
  have:y % 2^n/2^n=0:=Nat.div_eq_of_lt (Nat.mod_lt _ (Nat.two_pow_pos n));simp[Sp.wd,this]
 |k+1,h=>by
  have ih:=qyy (y:=y) hn k (by omega);simp only[Sp.wd,ih,q3g];rw[q3h (by omega),show n-1-k=n-(k+1)by omega];have e1:y.testBit (n-(k+1))=(y % 2^n).testBit (n-(k+1)):=by rw[Nat.testBit_mod_two_pow];simp;omega
  rw[e1,q3j];have h1:y % 2^n<2^64:=zkg (Nat.mod_lt _ (Nat.two_pow_pos n)) (Nat.pow_le_pow_right (by decide) hn);generalize y % 2^n=z at *;have e2:z/2^(n-k)=z/2^(n-(k+1))/2:=by
   rw[Nat.div_div_eq_div_mul,<- Nat.pow_succ,show(n-(k+1)).succ=n-k by omega]
  rw[e2];have h2:z/2^(n-(k+1))<=z:=Nat.div_le_self _ _;generalize z/2^(n-(k+1))=q at *;rw[wrap64,wrap64,wrap64];omega
theorem q8s{y n:Nat}(hn:n<=64):Sp.wd (Sp.qq5 y n) n=((y % 2^n:Nat):Int):=by
 rw[qyy hn n (zi7 _)];simp
theorem q9y(w:Int)(m:Nat):Sp.low w m=((m % 2^Sp.wn w:Nat):Int):=by unfold Sp.low Sp.pw;exact(Int.natCast_emod _ _).symm
theorem zap{w x:Int}(hx:U64 x):Sp.fit w x=Sp.low w x:=by
 unfold Sp.fit;rw[qnq,q3i hx];show Sp.wd (Sp.qq5 x.toNat (Sp.wn w)) (Sp.wn w)=_;rw[q8s (q8r w),<- q9y];congr 1;have:=hx.1;omega
end
end Go.Abs
namespace Go.Abs
open Go Go.Proofs
noncomputable section
theorem qm2{σ U α:Type}{g:σ->α->Option σ}{g':U->α->Option U}{R:σ->U->Prop}:∀(l:List α),(∀a∈l,∀s t,R s t->(g s a=none/\g' t a=none)\/∃s1 t1,g s a=some s1/\g' t a=some t1/\R s1 t1)->∀s t,R s t ->
  (qch g l s=none/\qch g' l t=none)\/∃s1 t1,qch g l s=some s1/\qch g' l t=some t1/\R s1 t1
 |[],_,s,t,r=>.inr ⟨s,t,rfl,rfl,r⟩
 |a::l,h,s,t,r=>by
  simp only[qch];rcases h a (zjd ..) s t r with⟨h1,h2⟩|⟨s1,t1,h1,h2,r1⟩
  ·rw[h1,h2];exact .inl ⟨rfl,rfl⟩
  ·rw[h1,h2];exact qm2 l (fun a ha=>h a (zjk _ ha)) s1 t1 r1
structure qob(n:Nat)(b:Int)(s:DI)(t:DK):Prop where
 d:s.1=t.1
 l1:t.1.length=n
 l2:s.2.length=n
 l3:t.2.length=n
 k:∀v,v<n->(t.2.getD v false=true↔s.2.getD v 0=b+1)
 le:∀v,v<n->s.2.getD v 0<=b+1
theorem qio{α:Type}{l:List α}{i j:Nat}{y z:α}(h:i<l.length):(l.set i y).getD j z=if j=i then y else l.getD j z:=by
 by_cases e:j=i
 ·subst e;rw[if_pos rfl];exact qgl h
 ·rw[if_neg e];exact getD_set_ne e
theorem qob.set{n:Nat}{b:Int}{s:DI}{t:DK}(r:qob n b s t){i:Nat}(hi:i<n):qob n b (s.1.set i true,s.2.set i (b+1)) (t.1.set i true,t.2.set i true) where
 d:=by rw[r.d]
 l1:=by simpa using r.l1
 l2:=by simpa using r.l2
 l3:=by simpa using r.l3
 k v hv:=by
  simp only;rw[qio (by rw[r.l3];exact hi),qio (by rw[r.l2];exact hi)]
  by_cases e:v=i
  ·rw[if_pos e,if_pos e];simp
  ·rw[if_neg e,if_neg e];exact r.k v hv
 le v hv:=by
  simp only;rw[qio (by rw[r.l2];exact hi)]
  by_cases e:v=i
  ·rw[if_pos e];exact Int.le_refl _
  ·rw[if_neg e];exact r.le v hv
variable {f:Fn} {b:Int}
theorem qob.uses{s:DI}{t:DK}(r:qob f.qaa.length b s t)(l:List Int):Sp.qgk s.2 l b=Sp.used f l t.2:=by
 unfold Sp.qgk Sp.used;congr 1;funext v;unfold Sp.within;by_cases h1:v<0
 ·have:¬ 0<=v:=by omega
  simp[h1,this]
 by_cases h2:(f.qaa.length:Int)<=v
 ·have:¬ v<(f.qaa.length:Int):=by omega
  simp[r.l2,h2,this]
 have h3:0<=v:=by omega
 have h4:v<(f.qaa.length:Int):=by omega
 have hk:=r.k v.toNat (by omega);rw[decide_eq_false h1,r.l2,decide_eq_false h2,decide_eq_true h3,decide_eq_true h4];cases e:t.2.getD v.toNat false with
 |true=>rw[decide_eq_true (hk.1 e)];rfl
 |false=>rw[decide_eq_false (fun q=>by rw[hk.2 q]at e;cases e)];rfl
theorem qsl{d:List Bool}(hd:d.length=f.qaa.length)(v:Int):Sp.qgs d v=(Sp.within f v&&!d.getD v.toNat false):=by
 unfold Sp.qgs Sp.within;rw[hd];by_cases h1:v<0
 ·have:¬ 0<=v:=by omega
  simp[h1,this]
 by_cases h2:(f.qaa.length:Int)<=v
 ·have:¬ v<(f.qaa.length:Int):=by omega
  simp[h2,this]
 have h3:0<=v:=by omega
 have h4:v<(f.qaa.length:Int):=by omega
 rw[decide_eq_false h1,decide_eq_false h2,decide_eq_true h3,decide_eq_true h4];rfl
theorem qob.par{s:DI}{t:DK}(r:qob f.qaa.length b s t)(v:Int):(Sp.qjh b s v=none/\Sp.qcy f t v=none)\/∃s1 t1,Sp.qjh b s v=some s1/\Sp.qcy f t v=some t1/\qob f.qaa.length b s1 t1:=by
 unfold Sp.qjh Sp.qcy;rw[qsl (f:=f) (by rw[r.d];exact r.l1),r.d]
 cases h1:Sp.within f v with
 |false=>exact .inl ⟨by simp,by simp⟩
 |true=>
  cases h2:t.1.getD v.toNat false with
  |true=>exact .inl ⟨by simp,by simp⟩
  |false=>
   obtain⟨q1,q2⟩:=within_iff.1 h1;have h:=r.set (i:=v.toNat) (by omega);rw[r.d]at h;exact .inr ⟨_,_,by simp,by simp,h⟩
theorem zhp(x:qat)(i:Nat):(Sp.aL f x i).getD 0 0=Sp.aw f x 0 i/\(Sp.aL f x i).getD 1 0=Sp.aw f x 1 i/\(Sp.aL f x i).getD 2 0=Sp.aw f x 2 i:=⟨rfl,rfl,rfl⟩
theorem qhe{x:qat}(h:0<=Sp.arity x.op):Sp.named x.op=Sp.result x.op:=by
 simp only[Sp.named,Sp.result,h,decide_true,zjy]
theorem zdz(x:qat):((Sp.qtf f x).2&&Sp.qsf x)=(Sp.qp2 x&&Sp.qjd f x)/\((Sp.qtf f x).2=true->(Sp.qtf f x).1=Sp.mOf f x):=by
 unfold Sp.qtf Sp.qsf Sp.qp2 Sp.qjd Sp.mOf Sp.qhf;by_cases o1:x.op=25
 ·rw[o1];constructor
  ·by_cases h1:x.mem<0<;>by_cases h2:(f.qag.length:Int)<=x.mem<;>by_cases h3:x.num=0<;>simp[h1,h2,h3]
  ·by_cases h1:x.mem<0<;>by_cases h2:(f.qag.length:Int)<=x.mem<;>simp[h1,h2]
 by_cases o2:x.op=26
 ·rw[o2];constructor
  ·by_cases h1:x.mem<0<;>by_cases h2:(f.qag.length:Int)<=x.mem<;>by_cases h3:x.num=0<;>simp[h1,h2,h3]
  ·by_cases h1:x.mem<0<;>by_cases h2:(f.qag.length:Int)<=x.mem<;>simp[h1,h2]
 by_cases o3:x.op=27
 ·rw[o3];constructor
  ·by_cases h1:x.mem<0<;>by_cases h2:(f.streams.length:Int)<=x.mem<;>by_cases h3:x.num=0<;>cases h4:(f.streams.getD x.mem.toNat qbd.z).out<;>rw[zi5]at h4<;>simp[h1,h2,h3,h4]
  ·by_cases h1:x.mem<0<;>by_cases h2:(f.streams.length:Int)<=x.mem<;>cases h4:(f.streams.getD x.mem.toNat qbd.z).out<;>rw[zi5]at h4<;>simp[h1,h2,h4]
 by_cases o4:x.op=28
 ·rw[o4];constructor
  ·by_cases h1:x.mem<0<;>by_cases h2:(f.streams.length:Int)<=x.mem<;>by_cases h3:x.num=0<;>cases h4:(f.streams.getD x.mem.toNat qbd.z).out<;>rw[zi5]at h4<;>simp[h1,h2,h3,h4]
  ·by_cases h1:x.mem<0<;>by_cases h2:(f.streams.length:Int)<=x.mem<;>cases h4:(f.streams.getD x.mem.toNat qbd.z).out<;>rw[zi5]at h4<;>simp[h1,h2,h4]
 have o5:(decide (25<=x.op)&&decide (x.op<=28))=false:=by rw[<- Bool.decide_and];exact decide_eq_false (by omega)
 simp only[o1,o2,o3,o4,or_self,if_false,o5]
 constructor
 ·by_cases h1:x.mem=0<;>by_cases h2:x.num=0<;>by_cases h3:x.op=1<;>simp[h1,h2,h3]
 ·intro _;rfl
theorem zem(x:qat)(hn:U64 x.num)(w m a0 a1 a2:Int):Sp.zbx x w m a0 a1 a2=Sp.qn8 x w m a0 a1 a2:=by
 unfold Sp.zbx Sp.q6d Sp.qn8;rw[zap hn];by_cases h1:x.op=1
 ·rw[if_pos h1,if_pos h1]
 rw[if_neg h1,if_neg h1];by_cases h2:x.op=21
 ·rw[if_pos h2,if_pos h2,zkx]
 rw[if_neg h2,if_neg h2];by_cases h3:x.op=22\/x.op=23
 ·rw[if_pos h3,if_pos h3]
 rw[if_neg h3,if_neg h3,Bool.and_comm (decide (a0=a1))]
theorem zai{x:qat}(hx:x.ok)(ha:Sp.arity x.op=(x.args.length:Int)):Sp.q8b f x=(Sp.qx2 f x&&Sp.qdp f x):=by
 obtain⟨e1,e2⟩:=zdz (f:=f) x;obtain⟨a1,a2,a3⟩:=zhp (f:=f) x x.args.length;unfold Sp.q8b Sp.qdp;rw[a1,a2,a3,<- e1,zem x hx.2.2.2.1];have ew:Sp.zd9 f x=Sp.wOf f x:=by
  unfold Sp.zd9 Sp.wOf;rw[qhe (by omega)]
 rw[ew];cases h:(Sp.qtf f x).2 with
 |false=>simp
 |true=>
  rw[e2 h];cases Sp.qsf x<;>cases Sp.qx2 f x<;>simp
theorem qob.ins{s:DI}{t:DK}(r:qob f.qaa.length b s t){x:qat}(hx:x.ok):(Sp.qnx f b s x=none/\Sp.qb5 f t x=none)\/∃s1 t1,Sp.qnx f b s x=some s1/\Sp.qb5 f t x=some t1/\qob f.qaa.length b s1 t1:=by
 unfold Sp.qnx Sp.qb5;by_cases ha:Sp.arity x.op=(x.args.length:Int)
 rotate_left
 ·exact .inl ⟨by rw[if_neg ha],by rw[if_neg (fun h=>ha h.1)]⟩
 rw[if_pos ha,r.uses,zai hx ha,qhe (by omega)];have hd:s.1.length=f.qaa.length:=by rw[r.d];exact r.l1
 cases hu:Sp.used f x.args t.2 with
 |false=>exact .inl ⟨by simp,by simp⟩
 |true=>
  cases hi:Sp.qdp f x with
  |false=>exact .inl ⟨by simp,by simp⟩
  |true=>
   unfold Sp.qx2 Sp.qfe Sp.qjh Sp.mark;rw[qhe (by omega),qsl hd,r.d];cases hr:Sp.result x.op with
   |false=>
    by_cases h1:x.dest=-1
    ·exact .inr ⟨s,t,by simp[h1],by simp[h1,ha],r⟩
    ·exact .inl ⟨by simp[h1],by simp[h1]⟩
   |true=>
    cases hw:Sp.within f x.dest with
    |false=>exact .inl ⟨by simp,by simp⟩
    |true=>
     obtain⟨q1,q2⟩:=within_iff.1 hw;have q3:¬ x.dest<0:=by omega
     have q4:¬ (f.qaa.length:Int)<=x.dest:=by omega
     cases h2:t.1.getD x.dest.toNat false with
     |true=>exact .inl ⟨by simp[q3,q4],by simp⟩
     |false=>
      have h:=r.set (i:=x.dest.toNat) (by omega);rw[r.d]at h;exact .inr ⟨_,_,by simp[q3,q4],by simp[ha],h⟩
theorem qob.ziz{s:DI}{t:DK}(r:qob f.qaa.length b s t)(e:Edge):Sp.qk2 f s.2 e b=Sp.qc0 f e t.2:=by
 unfold Sp.qk2 Sp.qc0 Sp.pairs;rw[r.uses];simp only[zkx];congr 1;congr 1;congr 1;generalize (f.blk e.block.toNat).params=p;by_cases h:e.args.length=p.length
 ·have h':((p.length:Nat):Int)=e.args.length:=by omega
  rw[decide_eq_true h,decide_eq_true h',h];congr 1;congr 1;funext i;unfold Sp.qg9 Sp.qqz;congr 1;exact decide_eq_decide.2 eq_comm
 ·have h':¬ ((p.length:Nat):Int)=e.args.length:=by omega
  rw[decide_eq_false h,decide_eq_false h'];rfl
theorem qob.term{s:DI}{t:DK}(r:qob f.qaa.length b s t)(x:Term):Sp.qqj f s.2 x b=Sp.qdm f x t.2:=by
 unfold Sp.qqj Sp.qdm Sp.kindOk Sp.qnh Sp.qd9 Sp.pairs;simp only[r.uses,r.ziz];generalize x.to.all (fun e=>Sp.qc0 f e t.2)=E;by_cases h1:x.kind=1
 ·by_cases a:(x.to.length:Int)=1<;>by_cases c:x.cond=-1<;>by_cases d:x.qax=[]<;>cases E<;>simp[h1,a,c,d]
 by_cases h2:x.kind=2
 ·by_cases a:(x.to.length:Int)=2<;>by_cases d:x.qax=[]<;>cases E<;>simp[h2,a,d]
 by_cases h3:x.kind=3
 ·by_cases a:x.to=[]<;>by_cases c:x.cond=-1<;>by_cases d:x.qax.length=f.qax.length<;>cases Sp.used f x.qax t.2<;>cases E<;>simp[h3,a,c,d]<;>first|rfl|(intro h;exfalso;omega)
 simp[h1,h2,h3]
theorem za0{x:Block}(hx:x.ok){d:List Bool}{k:List Int}(hd:d.length=f.qaa.length)(hk:k.length=f.qaa.length)(hb:∀v,v<f.qaa.length->k.getD v 0<=b) :
  (Sp.zby f b (d,k) x=none/\Sp.qcb f d x=none)\/∃s t,Sp.zby f b (d,k) x=some s/\Sp.qcb f d x=some s.1/\qob f.qaa.length b s t:=by
 have r0:qob f.qaa.length b (d,k) (d,List.replicate f.qaa.length false):=⟨rfl,hd,hk,zke,fun v hv=>by
  have:=hb v hv;simp only;have e:(List.replicate f.qaa.length false).getD v false=false:=by simp[zi5,hv]
  rw[e]
  constructor
  ·intro h;cases h
  ·intro h;omega,fun v hv=>by have:=hb v hv;simp only;omega⟩
 unfold Sp.zby Sp.qcb;by_cases hl:Sp.qn6 x=true
 rotate_left
 ·rw[if_neg hl,if_neg hl];exact .inl ⟨rfl,rfl⟩
 rw[if_pos hl,if_pos hl];rcases qm2 (g:=Sp.qjh b) (g':=Sp.qcy f) (R:=qob f.qaa.length b) x.params (fun v _ s t r=>qob.par (f:=f) r v) _ _ r0 with⟨h1,h2⟩|⟨s1,t1,h1,h2,r1⟩
 ·rw[h1,h2];exact .inl ⟨rfl,rfl⟩
 rw[h1,h2];rcases qm2 (g:=Sp.qnx f b) (g':=Sp.qb5 f) (R:=qob f.qaa.length b) x.insts (fun v hv s t r=>qob.ins (f:=f) r (hx.2.1.2 v hv)) _ _ r1 with⟨h3,h4⟩|⟨s2,t2,h3,h4,r2⟩
 ·simp only[h3,h4];exact .inl ⟨trivial,trivial⟩
 simp only[h3,h4,r2.term];cases Sp.qdm f x.term t2.2 with
 |false=>exact .inl ⟨rfl,rfl⟩
 |true=>exact .inr ⟨s2,t2,rfl,by rw[r2.d];rfl,r2⟩
theorem qph(hf:f.ok):∀(n i:Nat) (d:List Bool) (k:List Int),i+n=f.blocks.length->d.length=f.qaa.length->k.length=f.qaa.length->(∀v,v<f.qaa.length->k.getD v 0<=(i:Int)) ->
  (qch (Sp.qql f) (List.range' i n) (d,k)).isSome=(qch (Sp.qcb f) (f.blocks.drop i) d).isSome
 |0,i,d,k,hi,_,_,_=>by
  rw[List.drop_eq_nil_of_le (by omega)];rfl
 |n+1,i,d,k,hi,hd,hk,hb=>by
  have hlt:i<f.blocks.length:=by omega
  have e:f.blocks.drop i=f.blk i::f.blocks.drop (i+1):=by
   rw[List.drop_eq_getElem_cons hlt];simp[Fn.blk,zi5,hlt]
  rw[e,List.range'_succ];simp only[qch,Sp.qql];rcases za0 (b:=(i:Int)) (Fn.qvy hf hlt) hd hk hb with⟨h1,h2⟩|⟨s,t,h1,h2,r⟩
  ·rw[h1,h2];rfl
  ·rw[h1,h2];exact qph hf n (i+1) s.1 s.2 (by omega) (by rw[r.d];exact r.l1) r.l2 (fun v hv=>by have:=r.le v hv;push_cast;exact this)
theorem qwl(l:List ByteArray)(i:Nat)(hi:i<l.length):(!Sp.has (l.take i) (nameAt l i))=(List.range i).all fun k=>!((nameAt l k).toList==(nameAt l i).toList):=by
 rw[Bool.eq_iff_iff];simp only[Sp.has,zjo,List.any_eq_false,zjm,zj3,bytes_beq,decide_eq_true_eq,decide_eq_false_iff_not]
 constructor
 ·intro h k hk;refine h _ ?_;have:nameAt l k=(l.take i)[k]'(by simp;omega):=by simp[nameAt,zi5,show k<l.length by omega]
  rw[this];exact zj1 _
 ·intro h c hc;obtain⟨k,hk,rfl⟩:=List.mem_iff_getElem.1 hc;have hk':k<i:=by simp at hk;omega
  have:=h k hk';simpa[nameAt,zi5,show k<l.length by omega,hi]using this
theorem q9u(f:Fn):Sp.qsk f=Sp.qjc f:=by
 have div:∀a:Arr,Sp.qsx a=Sp.qqg a:=fun a=>by
  unfold Sp.qsx Sp.qqg;by_cases h0:a.kind=0
  ·simp[h0]
  by_cases h1:a.kind=1
  ·by_cases q1:1<=a.factor
   ·have:¬ a.factor<1:=by omega
    by_cases q2:a.factor<=(if 64<a.len then 64 else a.len)
    ·simp[h1,q1,this,q2,Int.not_lt.2 q2]
    ·simp[h1,q1,this,q2,Int.not_le.1 q2]
   ·have:a.factor<1:=by omega
    simp[h1,q1,this]
  by_cases h2:a.kind=2
  ·by_cases q1:1<=a.factor
   ·have:¬ a.factor<1:=by omega
    by_cases q2:a.factor<=(if 64<a.len then 64 else a.len)
    ·simp[h2,q1,this,q2,Int.not_lt.2 q2]
    ·simp[h2,q1,this,q2,Int.not_le.1 q2]
   ·have:a.factor<1:=by omega
    simp[h2,q1,this]
  by_cases h3:a.kind=3
  ·by_cases q:64<a.len
   ·have:¬ a.len<=64:=by omega
    simp[h3,q,this]
   ·have:a.len<=64:=by omega
    simp[h3,q,this]
  simp[h0,h1,h2,h3]
 have hal:f.names.length=f.qag.length+f.streams.length:=by simp[Fn.names]
 have na:∀i,i<f.qag.length->nameAt f.names i=(f.qag.getD i Arr.z).name/\f.names.take i=qc8 f i:=fun i hi=>by
  constructor
  ·simp[nameAt,Fn.names,zi5,List.getElem?_append,hi]
  ·simp only[Fn.names,qc8,List.take_append,zje,List.map_take,show i-f.qag.length=0 by omega,List.take_zero,zkd]
 have ns:∀i,i<f.streams.length->nameAt f.names (f.qag.length+i)=(f.streams.getD i qbd.z).name/\f.names.take (f.qag.length+i)=qc5 f i:=fun i hi=>by
  constructor
  ·simp[nameAt,Fn.names,zi5,List.getElem?_append,hi]
  ·simp[Fn.names,qc5,List.take_append,List.map_take];exact List.take_of_length_le (by simp)
 have ia:∀i,i<f.qag.length->Sp.q8m f i=(Sp.qta (f.qag.getD i Arr.z)&&Sp.qib f.names i):=fun i hi=>by
  obtain⟨n1,n2⟩:=na i hi;have h:=qwl f.names i (by omega);rw[n1,n2]at h;unfold Sp.q8m Sp.qta Sp.qib;simp only[qo2,div,n1]at h ⊢;rw[<- h];cases Sp.has (qc8 f i) (f.qag.getD i Arr.z).name<;>cases Sp.ident (f.qag.getD i Arr.z).name<;>simp[zkx]
 have is_:∀i,i<f.streams.length->Sp.q7r f i=(Sp.right (f.streams.getD i qbd.z).width&&Sp.qib f.names (f.qag.length+i)):=fun i hi=>by
  obtain⟨n1,n2⟩:=ns i hi;have h:=qwl f.names (f.qag.length+i) (by omega);rw[n1,n2]at h;unfold Sp.q7r Sp.qib;simp only[qo2,n1]at h ⊢;rw[<- h];cases Sp.has (qc5 f i) (f.streams.getD i qbd.z).name<;>cases Sp.ident (f.streams.getD i qbd.z).name<;>simp
 unfold Sp.qsk Sp.qjc;generalize (decide ((f.qag.length:Int)<=64)&&decide ((f.streams.length:Int)<=64))=L;rw[<- zkx,<- zkx,<- zkx];congr 1;rw[Bool.eq_iff_iff];simp only[zi4,zjm,zj3]
 constructor
 ·rintro⟨h1,h2⟩
  refine⟨⟨fun a ha=>?_,fun s hs=>?_⟩,fun i hi=>?_⟩
  ·obtain⟨i,hi,rfl⟩:=List.mem_iff_getElem.1 ha;have:=h1 i hi;rw[ia i hi,zi4]at this;simpa[zi5,hi]using this.1
  ·obtain⟨i,hi,rfl⟩:=List.mem_iff_getElem.1 hs;have:=h2 i hi;rw[is_ i hi,zi4]at this;simpa[zi5,hi]using this.1
  ·by_cases q:i<f.qag.length
   ·have:=h1 i q;rw[ia i q,zi4]at this;exact this.2
   ·have:=h2 (i-f.qag.length) (by omega);rw[is_ _ (by omega),zi4,show f.qag.length+(i-f.qag.length)=i by omega]at this;exact this.2
 ·rintro⟨⟨h1,h2⟩,h3⟩
  refine⟨fun i hi=>?_,fun i hi=>?_⟩
  ·rw[ia i hi,zi4];refine⟨?_,h3 i (by omega)⟩;have:=h1 f.qag[i] (zj1 hi);simpa[zi5,hi]using this
  ·rw[is_ i hi,zi4];refine⟨?_,h3 _ (by omega)⟩;have:=h2 f.streams[i] (zj1 hi);simpa[zi5,hi]using this
theorem q1s(f:Fn)(hf:f.ok):Sp.q1t f=Sp.valid f:=by
 unfold Sp.q1t Sp.valid;have h:=qph hf f.blocks.length 0 (List.replicate f.qaa.length false) (List.replicate f.qaa.length 0) (by omega) zke zke (fun v hv=>by simp[zi5,hv]);rw[List.range_eq_range',h,List.drop_zero];congr 1;unfold Sp.zak Sp.qm1 Sp.qaa;rw[q9u];have e1:(!decide (65536<(f.qaa.length:Int)))=decide ((f.qaa.length:Int)<=65536):=by rw[<- decide_not];exact decide_eq_decide.2 (by omega)
 have e2:(!decide (64<(f.qax.length:Int)))=decide ((f.qax.length:Int)<=64):=by rw[<- decide_not];exact decide_eq_decide.2 (by omega)
 rw[e1,e2];cases Sp.ident f.name<;>cases Sp.qjc f<;>cases f.qaa.all Sp.right<;>cases f.qax.all Sp.right<;>simp
 all_goals(cases decide ((f.qaa.length:Int)<=65536)<;>simp[zkx])
end
end Go.Abs
namespace Go.Abs
open Go Go.Proofs
noncomputable section
def ann33:Ann:=(.seq .o (.join ⟨[(1,(.ptr 0 0))],[(.box 30 (.st 6))]⟩ (.seq .o (.cond (.seq .o .o) .o)) (.seq .o (.join ⟨[(1,(.ptr 0 0))],[(.box 30 (.st 6))]⟩ (.seq .o (.cond (.seq .o .o) .o)) (.join ⟨[(1,(.ptr 0 0)),(4,(.ptr 1 0))],[(.box 30 (.st 6)),(.cells 107 [.s,(.fz (.int .i64)),(.fz (.st 4)),(.fz (.st 5)),(.fz (.int .i64)),(.fz (.st 3)),(.full 2),(.full 3)]),(.lst 4 .bool),(.lst 3 (.int .i64))]⟩ (.x ⟨false,false,false,false,[],[],[0,0,2,6,14,0,32,96,224,511,1023,2047],(.rd 0 (.fl 1 (.rd 2 (.fl 3 (.fl 5 (.rd 6 (.fl 7 (.br 4 (.on 8 (.qu [9] (.on 10 (.qu [11] .nil)))) (.br 8 (.on 4 (.qu [9] (.on 10 (.qu [11] .nil)))) .no)))))))))⟩) (.join ⟨[],[]⟩ (.seq .o (.block (.loop sh171 [((.exit 0),⟨[],[]⟩),(.ret,⟨[(2,.b)],[]⟩)] (.seq .o (.join sh171 (.cond .o .o) (.join sh171 (.block (.seq .o (.seq .o (.cond (.seq .o .o) .o)))) .o)))))) (.seq .o .o)))))))
def go33_l1:((Unit×((List Block)×(Int×(Int×Unit))))×ty149)->Option (((Unit×((List Block)×(Int×(Int×Unit))))×ty149)⊕((Unit×Unit)⊕((Bool×Unit)×Unit))):=(fun r3=>(bif(decide (r3.1.2.2.2.1<r3.1.2.2.1))then(grd (okB ((0<=r3.1.2.2.2.1)/\(r3.1.2.2.2.1<(r3.1.2.1.length:Int)))) (qaj (grd (okB ((Block.ok (r3.1.2.1.getD r3.1.2.2.2.1.toNat Block.z))/\((Bk r3.1.2.2.2.1)/\(DIn (mkF (r3.2.1.1,(r3.2.1.2.1,(r3.2.1.2.2.1,(r3.2.1.2.2.2.1,(r3.2.1.2.2.2.2.1,(r3.2.1.2.2.2.2.2.1,((),((),()))))))))).qaa.length (r3.2.2.1,r3.2.2.2.1))))) (some ((Sp.qfq (mkF (r3.2.1.1,(r3.2.1.2.1,(r3.2.1.2.2.1,(r3.2.1.2.2.2.1,(r3.2.1.2.2.2.2.1,(r3.2.1.2.2.2.2.2.1,((),((),()))))))))) r3.1.2.2.2.1 (r3.2.2.1,r3.2.2.2.1) (r3.1.2.1.getD r3.1.2.2.2.1.toNat Block.z)).1,((r3.2.1.1,(r3.2.1.2.1,(r3.2.1.2.2.1,(r3.2.1.2.2.2.1,(r3.2.1.2.2.2.2.1,(r3.2.1.2.2.2.2.2.1,((),((),())))))))),((Sp.qfq (mkF (r3.2.1.1,(r3.2.1.2.1,(r3.2.1.2.2.1,(r3.2.1.2.2.2.1,(r3.2.1.2.2.2.2.1,(r3.2.1.2.2.2.2.2.1,((),((),()))))))))) r3.1.2.2.2.1 (r3.2.2.1,r3.2.2.2.1) (r3.1.2.1.getD r3.1.2.2.2.1.toNat Block.z)).2.1,((Sp.qfq (mkF (r3.2.1.1,(r3.2.1.2.1,(r3.2.1.2.2.1,(r3.2.1.2.2.2.1,(r3.2.1.2.2.2.2.1,(r3.2.1.2.2.2.2.2.1,((),((),()))))))))) r3.1.2.2.2.1 (r3.2.2.1,r3.2.2.2.1) (r3.1.2.1.getD r3.1.2.2.2.1.toNat Block.z)).2.2,())))))) (fun r4=>(grd ((decide ((1:Nat)=1))&&((decide (r4.2.2.1.length=r3.2.2.1.length))&&((decide (r4.2.2.2.1.length=r3.2.2.2.1.length))&&true))) (bif(!r4.1)then(some (Sum.inr (Sum.inr ((false,()),()))))else(grd (okB (((-9223372036854775808)<=(r3.1.2.2.2.1+1))/\((r3.1.2.2.2.1+1)<=9223372036854775807))) (some (Sum.inl (((),(r3.1.2.1,(r3.1.2.2.1,((r3.1.2.2.2.1+1),())))),((r4.2.1.1,(r4.2.1.2.1,(r4.2.1.2.2.1,(r4.2.1.2.2.2.1,(r4.2.1.2.2.2.2.1,(r4.2.1.2.2.2.2.2.1,((),((),())))))))),(r4.2.2.1,(r4.2.2.2.1,()))))))))))))else(some (Sum.inr (Sum.inl ((),()))))))
def go33_j1:((Unit×(Unit×Unit))×(Fn×ty149))->Option (Bool×Unit):=(fun z0=>(qaj (qap (go33_l1) (((),(z0.2.1.blocks,((z0.2.1.blocks.length:Int),(0,())))),((z0.2.2.1.1,(z0.2.2.1.2.1,(z0.2.2.1.2.2.1,(z0.2.2.1.2.2.2.1,(z0.2.2.1.2.2.2.2.1,(z0.2.2.1.2.2.2.2.2.1,((),((),())))))))),(z0.2.2.2.1,(z0.2.2.2.2.1,()))))) (fun z1=>(qgu (fun z2=>(some (true,()))) (fun z2=>(some (z2.1.1,()))) z1))))
def go33(x0:Fn):(Option (Bool×Unit)):=(bif(!(Sp.ident x0.name))then(some (false,()))else(qaj (grd (okB (Fn.ok x0)) (some ((Sp.qsk x0),()))) (fun r0=>(bif(!r0.1)then(some (false,()))else(bif(decide (65536<(x0.qaa.length:Int)))then(some (false,()))else(bif(decide (64<(x0.qax.length:Int)))then(some (false,()))else(bif(decide ((x0.blocks.length:Int)<1))then(some (false,()))else(bif(decide (1024<(x0.blocks.length:Int)))then(some (false,()))else(qaj (grd (okB (x0.qaa.length<=LEN)) (some ((!(@List.all Int x0.qaa Sp.right)),()))) (fun r1=>(bif r1.1 then(some (false,()))else(qaj (grd (okB (x0.qax.length<=LEN)) (some ((!(@List.all Int x0.qax Sp.right)),()))) (fun r2=>(bif r2.1 then(some (false,()))else(jpO (go33_j1) (fun j0=>(brO (grd (okB (((x0.qaa.length:Int)=(x0.qaa.length:Int))/\((0<=(x0.qaa.length:Int))/\((((x0.qaa.length:Int)*((1:Nat):Int))<=140737488355328)/\((x0.qaa.length:Int)<=281474976710656))))) (grd (okB (((x0.qaa.length:Int)=(x0.qaa.length:Int))/\((0<=(x0.qaa.length:Int))/\((((x0.qaa.length:Int)*((8:Nat):Int))<=140737488355328)/\((x0.qaa.length:Int)<=281474976710656))))) (j0 (((),((),())),(x0,((x0.name,(x0.qaa,(x0.qag,(x0.streams,(x0.qax,(x0.blocks,((),((),())))))))),((@List.replicate Bool (x0.qaa.length:Int).toNat false),((@List.replicate Int (x0.qaa.length:Int).toNat 0),())))))))) (grd (okB (((x0.qaa.length:Int)=(x0.qaa.length:Int))/\((0<=(x0.qaa.length:Int))/\((((x0.qaa.length:Int)*((8:Nat):Int))<=140737488355328)/\((x0.qaa.length:Int)<=281474976710656))))) (grd (okB (((x0.qaa.length:Int)=(x0.qaa.length:Int))/\((0<=(x0.qaa.length:Int))/\((((x0.qaa.length:Int)*((1:Nat):Int))<=140737488355328)/\((x0.qaa.length:Int)<=281474976710656))))) (j0 (((),((),())),(x0,((x0.name,(x0.qaa,(x0.qag,(x0.streams,(x0.qax,(x0.blocks,((),((),())))))))),((@List.replicate Bool (x0.qaa.length:Int).toNat false),((@List.replicate Int (x0.qaa.length:Int).toNat 0),())))))))))))))))))))))))))
theorem run33(x0:Fn):qdd (P:=Try.prog) [c80,c81,c84,c85] Try.f33 ann33 [(0,(.st 6))] [] .b [] (x0,()) ()=go33 x0:=by kernel_rfl
section
variable {f:Fn}
theorem qwk{n:Nat}{b:Int}{x:Block}{s:DI}(h:DIn n s):DIn n (Sp.qfq f b s x).2:=by
 unfold Sp.qfq;have i1:=qhl (qqq (b:=b)) x.params s h;have i2:=qhl (qud (f:=f) (b:=b)) x.insts _ i1;split
 ·cases(qcu (Sp.qjh b) x.params s).1 with
  |false=>exact i1
  |true=>
   simp only[cond_true];cases(qcu (Sp.qnx f b) x.insts (qcu (Sp.qjh b) x.params s).2).1 with
   |false=>exact i2
   |true=>exact i2
 ·exact h
theorem q6a:∀(s:DI) (i:Nat) (s':DI),DIn f.qaa.length s->Sp.qql f s i=some s'->DIn f.qaa.length s':=fun s i s' h e=>by
 unfold Sp.qql at e;rw[q8c]at e;have:=qwk (f:=f) (b:=(i:Int)) (x:=f.blk i) h;cases hc:(Sp.qfq f (i:Int) s (f.blk i)).1 with
 |false=>rw[hc]at e;cases e
 |true=>rw[hc]at e;injection e with e;exact e▸this
theorem q95(hf:f.ok)(hb:f.blocks.length<=1024){d:List Bool}{k:List Int}(h:DIn f.qaa.length (d,k)):qap go33_l1 (((),f.blocks,((f.blocks.length:Nat):Int),(0:Int),()),pkF f,d,k,()) =
  some (qdk (qch (Sp.qql f) (List.range f.blocks.length) (d,k)) (fun _=>Sum.inl ((),())) (Sum.inr ((false,()),()))):=by
 unfold go33_l1;have hr:(List.range f.blocks.length).length=f.blocks.length:=zjb;refine qf8 (l:=List.range f.blocks.length) 0 (Sp.qql f) (DIn f.qaa.length) (st:=fun i (s:DI)=>(((),f.blocks,((f.blocks.length:Nat):Int),(i:Int),()),pkF f,s.1,s.2,())) (s0:=(d,k)) rfl h q6a _ _ (fun i s hi hs=>?_) (fun s hs=>?_)
 ·rw[hr]at hi;rw[qaw hi];have hbk:=Fn.qvy hf hi;have pre:Block.ok (f.blocks.getD i Block.z)/\Bk (i:Int)/\DIn (mkF (pkF f)).qaa.length (s.1,s.2):=⟨hbk,⟨by omega,by omega⟩,hs⟩
  have hin:=qwk (f:=f) (b:=(i:Int)) (x:=f.blk i) hs;unfold Sp.qql;rw[q8c];dsimp only;rw[zja];simp only[qak pre,qaf];have hst:Sp.qfq (mkF (pkF f)) (i:Int) (s.1,s.2) (f.blocks.getD i Block.z)=Sp.qfq f (i:Int) s (f.blk i):=rfl;simp only[hst];have l1:(Sp.qfq f (i:Int) s (f.blk i)).2.1.length=s.1.length:=by rw[hin.1,hs.1]
  have l2:(Sp.qfq f (i:Int) s (f.blk i)).2.2.length=s.2.length:=by rw[hin.2,hs.2]
  simp only[l1,l2,decide_true,zjq,qba];cases hc:(Sp.qfq f (i:Int) s (f.blk i)).1 with
  |false=>simp(maxSteps:=1000000) (disch:=((try dsimp only);omega)) only[↓gsA,gsB];rfl
  |true=>simp(maxSteps:=1000000) (disch:=((try dsimp only);omega)) only[↓gsA,gsB];rfl
 ·rw[hr];simp(maxSteps:=1000000) (disch:=((try dsimp only);omega)) only[↓gsA,gsB]
theorem ok33(f:Fn)(hf:f.ok):go33 f=some (Sp.valid f,()):=by
 rw[<- q1s f hf];have hwl:f.qaa.length<=LEN:=hf.2.1.len;have hrl:f.qax.length<=LEN:=hf.2.2.2.2.1.len;unfold go33 Sp.q1t Sp.zak;rw[qak hf,qak hwl,qak hrl];simp only[qaf];cases h1:Sp.ident f.name with
 |false=>rfl
 |true=>
  cases h2:Sp.qsk f with
  |false=>rfl
  |true=>
   by_cases h3:65536<(f.qaa.length:Int)
   ·simp[h3]
   by_cases h4:64<(f.qax.length:Int)
   ·simp[h3,h4]
   by_cases h5:(f.blocks.length:Int)<1
   ·simp[h3,h4,h5]
   by_cases h6:1024<(f.blocks.length:Int)
   ·simp[h3,h4,h5,h6]
   rw[decide_eq_false h3,decide_eq_false h4,decide_eq_false h5,decide_eq_false h6];cases h7:f.qaa.all Sp.right with
   |false=>rfl
   |true=>
    cases h8:f.qax.all Sp.right with
    |false=>rfl
    |true=>
     have g:∀(m:Nat),m<=8->∀ {β:Type} (y:Option β),grd (okB (True/\0<=((f.qaa.length:Nat):Int)/\((f.qaa.length:Nat):Int)*((m:Nat):Int)<=140737488355328/\((f.qaa.length:Nat):Int)<=281474976710656)) y=y:=fun m hm β y=>qak ⟨trivial,by omega,by
      have:((f.qaa.length:Nat):Int)*((m:Nat):Int)<=65536*8:=Int.mul_le_mul (by omega) (by omega) (by omega) (by omega)
      omega,by omega⟩
     simp only[zju,cond_false,cond_true,g 1 (by omega),g 8 (by omega),qlt,qcp,zja,zj4,Bool.and_self,zjy];unfold go33_j1;refine qa5 (q95 hf (by omega) ⟨zke,zke⟩) ?_;cases qch (Sp.qql f) (List.range f.blocks.length) (List.replicate f.qaa.length false,List.replicate f.qaa.length 0)<;>rfl
end
def c33:Ctr Try.prog:=qbl 33 Try.f33 Try.func33 [c80,c81,c84,c85] ann33 [(0,(.st 6))] [] .b [] (fun x _=>grd (okB x.1.ok) (some (Sp.valid x.1,()))) (fun x _ r h=>FO (run33 x.1) (ok33 x.1) h)
end
end Go.Abs
namespace Go.Abs
open Go Go.Proofs
noncomputable section
def ann10:Ann:=(.seq .o (.join ⟨[(2,(.ptr 0 0)),(3,(.ptr 1 0))],[(.box 30 (.st 6)),(.cells 64 [(.i .u8),(.i .u8)])]⟩ (.seq .o (.cond (.seq .o .o) .o)) (.seq .o (.seq (.x ⟨false,false,false,false,[],[],[0,1,3,7,15,7,63,127,255,511],(.on 0 (.on 1 (.on 2 (.rd 3 (.br 4 (.qu [5] (.on 6 (.qu [7,8,9] .nil))) (.br 5 (.on 4 (.on 6 (.qu [7,8,9] .nil))) .no))))))⟩) .o))))
def go10(x0:Fn)(x1:(Int×(Int×Unit))):(Option (Bool×Unit)):=(qaj (grd (okB (Fn.ok x0)) (some ((Sp.few x0),()))) (fun r0=>(bif(!r0.1)then(some (true,()))else(qaj (grd (okB (Fn.ok x0)) (some ((Sp.valid x0),()))) (fun r1=>(bif(!r1.1)then(some (true,()))else(qaj (grd (okB (V34 x0 x1.1 x1.2.1)) (some ((x0.name,((),(x0.qag,(x0.streams,(x0.qax,((),())))))),((Sp.rot x0 x1.1 x1.2.1).qaa,((Sp.rot x0 x1.1 x1.2.1).blocks,()))))) (fun r2=>(qaj (grd (okB (Fn.ok (Fn.mk r2.1.1 r2.2.1 r2.1.2.2.1 r2.1.2.2.2.1 r2.1.2.2.2.2.1 r2.2.2.1))) (some ((Sp.valid (Fn.mk r2.1.1 r2.2.1 r2.1.2.2.1 r2.1.2.2.2.1 r2.1.2.2.2.2.1 r2.2.2.1)),()))) (fun r3=>(bif r3.1 then(brO (qaj (grd (okB (Rn (Fn.mk r2.1.1 r2.2.1 r2.1.2.2.1 r2.1.2.2.2.1 r2.1.2.2.2.2.1 r2.2.2.1))) (some ((r2.1.1,((),((),((),((),((),())))))),((Sp.qig (Fn.mk r2.1.1 r2.2.1 r2.1.2.2.1 r2.1.2.2.2.1 r2.1.2.2.2.2.1 r2.2.2.1)).qaa,(r2.1.2.2.1,(r2.1.2.2.2.1,(r2.1.2.2.2.2.1,((@List.map Block qab Sp.qct (Sp.qig (Fn.mk r2.1.1 r2.2.1 r2.1.2.2.1 r2.1.2.2.2.1 r2.1.2.2.2.2.1 r2.2.2.1)).blocks),())))))))) (fun r4=>(grd (okB (@LV.ffP _ _ (@LV.mk _ (41:Go.TypeId) (Ty.st 11) r4.2.2.2.2.2.1))) (qaj (grd (okB (Rn x0)) (some ((x0.name,((),((),((),((),((),())))))),((Sp.qig x0).qaa,(x0.qag,(x0.streams,(x0.qax,((@List.map Block qab Sp.qct (Sp.qig x0).blocks),())))))))) (fun r5=>(qaj (grd (okB (Fn.ok (Fn.mk r4.1.1 r4.2.1 r4.2.2.1 r4.2.2.2.1 r4.2.2.2.2.1 (@List.map qab Block qab.dat r4.2.2.2.2.2.1)))) (some ((Sp.qi6 (Fn.mk r4.1.1 r4.2.1 r4.2.2.1 r4.2.2.2.1 r4.2.2.2.2.1 (@List.map qab Block qab.dat r4.2.2.2.2.2.1)) (Fn.mk r5.1.1 r5.2.1 r5.2.2.1 r5.2.2.2.1 r5.2.2.2.2.1 (@List.map qab Block qab.dat r5.2.2.2.2.2.1))),()))) (fun r6=>(some (r6.1,()))))))))) (qaj (grd (okB (Rn (Fn.mk r2.1.1 r2.2.1 r2.1.2.2.1 r2.1.2.2.2.1 r2.1.2.2.2.2.1 r2.2.2.1))) (some ((r2.1.1,((),((),((),((),((),())))))),((Sp.qig (Fn.mk r2.1.1 r2.2.1 r2.1.2.2.1 r2.1.2.2.2.1 r2.1.2.2.2.2.1 r2.2.2.1)).qaa,(r2.1.2.2.1,(r2.1.2.2.2.1,(r2.1.2.2.2.2.1,((@List.map Block qab Sp.qct (Sp.qig (Fn.mk r2.1.1 r2.2.1 r2.1.2.2.1 r2.1.2.2.2.1 r2.1.2.2.2.2.1 r2.2.2.1)).blocks),())))))))) (fun r4=>(grd (okB (@LV.ffP _ _ (@LV.mk _ (41:Go.TypeId) (Ty.st 11) r4.2.2.2.2.2.1))) (qaj (grd (okB (Rn x0)) (some ((x0.name,((),((),((),((),((),())))))),((Sp.qig x0).qaa,(x0.qag,(x0.streams,(x0.qax,((@List.map Block qab Sp.qct (Sp.qig x0).blocks),())))))))) (fun r5=>(qaj (grd (okB (Fn.ok (Fn.mk r4.1.1 r4.2.1 r4.2.2.1 r4.2.2.2.1 r4.2.2.2.2.1 (@List.map qab Block qab.dat r4.2.2.2.2.2.1)))) (some ((Sp.qi6 (Fn.mk r4.1.1 r4.2.1 r4.2.2.1 r4.2.2.2.1 r4.2.2.2.2.1 (@List.map qab Block qab.dat r4.2.2.2.2.2.1)) (Fn.mk r5.1.1 r5.2.1 r5.2.2.1 r5.2.2.2.1 r5.2.2.2.2.1 (@List.map qab Block qab.dat r5.2.2.2.2.2.1))),()))) (fun r6=>(some (r6.1,()))))))))))else(brO (some (false,())) (some (false,()))))))))))))))
theorem run10(x0:Fn)(x1:(Int×(Int×Unit))):qdd (P:=Try.prog) [c12,c17,c18,c24,c26,c33,c34] Try.f10 ann10 [(0,(.st 6)),(1,(.agg [(.i .u8),(.i .u8)]))] [] .b [] (x0,(x1,())) ()=go10 x0 x1:=by kernel_rfl
theorem qvb{f:Fn}(hf:f.ok)(h:Sp.valid f=true):Rn f:=(qpn hf h).rn
theorem ok10(f:Fn)(x:Int×(Int×Unit))(hf:f.ok)(hx:(0<=x.1/\x.1<=255)/\(0<=x.2.1/\x.2.1<=255)):go10 f x=some (true,()):=by
 obtain⟨v,b,u⟩:=x;unfold go10;rw[qak hf,qaf];simp only;cases h1:Sp.few f with
 |false=>rfl
 |true=>
  simp only[zju,cond_false];rw[qak hf,qaf];simp only;cases h2:Sp.valid f with
  |false=>rfl
  |true=>
   obtain⟨w1,w2,w3,w4⟩:=qep h2;have hok:=zdo hf h2 v b;have hva:=q0k h2 v b;have hvk:=qev h2;have e1:=qme f hvk;have e2:Sp.qig (Sp.rot f v b)=Sp.canon f:=(qme _ (qev hva)).trans (q0m h2 v b);have hc:=q6t hf hvk w1 w4;have hV:V34 f v b:=⟨hf,h2,hx.1,hx.2⟩
   have er:(⟨f.name,(Sp.rot f v b).qaa,f.qag,f.streams,f.qax,(Sp.rot f v b).blocks⟩:Fn)=Sp.rot f v b:=rfl;have eg:(⟨f.name,(Sp.canon f).qaa,f.qag,f.streams,f.qax,(Sp.canon f).blocks⟩:Fn)=Sp.canon f:=rfl;simp only[zju,cond_false];rw[qak hV,qaf];simp only[er];rw[qak hok,qaf];simp only[hva,cond_true];rw[qak (qvb hok hva),qaf];simp only[e2];rw[qak (qx6 _),qak (qvb hf h2),qaf];simp only[e1,qya,eg];rw[qak hc,qaf];simp only[qtm,qlt]
def c10:Ctr Try.prog:=qbl 10 Try.f10 Try.func10 [c12,c17,c18,c24,c26,c33,c34] ann10 [(0,(.st 6)),(1,(.agg [(.i .u8),(.i .u8)]))] [] .b [] (fun x _=>grd (okB (x.1.ok/\(0<=x.2.1.1/\x.2.1.1<=255)/\(0<=x.2.1.2.1/\x.2.1.2.1<=255))) (some (true,()))) (fun x _ r h=>FO (run10 x.1 x.2.1) (fun p=>ok10 x.1 x.2.1 p.1 p.2) h)
end
end Go.Abs
namespace Go.Abs
open Go Go.Proofs
section
variable {P:Program} {t:TypeId}
theorem qpl{H:Type}{el:TypeId}{l:List (DataW H)}{d:DataW H}(hd:d∈l)(h:(DataW.weightsAll P el l).all (·<=reachBytes)=true):Wt P el d:=by
 unfold Wt;rw[zjm]at h ⊢;exact fun m hm=>h m (qfk hd m hm)
theorem qbc.elt{n:Nat}{el:TypeId}(hu:P.underlying t=some (.array n el)){i:Nat}(hi:i<n){s:Nat}{α:Type}{e:α->Nat->T}{ok:α->Prop}(O:qbc P el s e ok)
  {H:Type} {enc:TypeId×Value->H} {w:World} {spare:Nat->Bool} {fuel:Nat} {cs:List Value} {x:DataW H×List MemPlace} (hx:DataW.trod enc P w 0 spare true fuel t cs=some x) (hw:Wt P t x.1) :
  ∃a,ok a/\∀j,j<s->∃c,cs[i*s+j]?=some c/\Reads (qkx w) w (e a j) c:=by
 obtain⟨xs,m,rfl,rfl,hl,hxl,hx⟩:=DataW.trod_array hu hx;have h:=hx i hi;have hi':i<xs.length:=by omega
 rw[zjc hi',O.sz]at h;obtain⟨a,hok,hlen,hr⟩:=O.out H enc w spare m _ _ h (by
  simp only[Wt,DataW.weights,hu]at hw;exact qpl (zjz.2 ⟨xs[i],zj1 hi',rfl⟩) hw)
 refine⟨a,hok,fun j hj=>?_⟩;obtain⟨c,hc1,hc2⟩:=hr j hj;refine⟨c,?_,hc2⟩;rw[<- hc1,List.getElem?_take,if_pos (by omega),List.getElem?_drop]
theorem qbc.ziv{n:Nat}{el:TypeId}(hu:P.underlying t=some (.array n el)){H:Type}{enc:TypeId×Value->H}{w:World}{spare:Nat->Bool}{fuel:Nat}{cs:List Value}{x:DataW H×List MemPlace}(hx:DataW.trod enc P w 0 spare true fuel t cs=some x) :
  cs.length=P.cellsOf t:=by
 obtain⟨xs,m,rfl,rfl,hl,hxl,hx⟩:=DataW.trod_array hu hx;exact hl
theorem qbc.zii{k:Nat}{el:TypeId}(hu:P.underlying t=some (.array k el)){n:Nat}{α:Type}{e:α->Nat->T}{ok:α->Prop}(O:qbc P t n e ok)
  {H:Type} {enc:TypeId×Value->H} {W:World} {spare:Nat->Bool} {r:Reach} {base:Nat} {v:Value} {d:DataW H} {ps:List MemPlace}
  (hval:Value.okWide P W r base t v) (h:DataW.Trod enc P W 0 spare true t v d ps) (hw:Wt P t d) :
  ∃a,ok a/\qa0 qbh.none noι (qkx W) W (.agg n (fun j=>.t (e a j))) v:=by
 simp only[Value.okWide,hu]at hval;obtain⟨cs,rfl,-,-⟩:=hval;obtain⟨fuel,hf⟩:=h;obtain⟨a,hok,hl,hr⟩:=O.out H enc W spare fuel _ _ hf hw;refine⟨a,hok,cs,rfl,by simpa[Value.cells]using hl,fun j hj=>?_⟩;obtain⟨c,hc1,hc2⟩:=hr j hj;exact⟨c,by simpa[Value.cells]using hc1,hc2.plain,hc2⟩
end
end Go.Abs
namespace Go.Abs
open Go Go.Proofs
noncomputable section
section
variable {P:Program} {t:TypeId}
def U8(n:Int):Prop:=0<=n/\n<=255
theorem qbc.u8(h:P.underlying t=some (.int .u8))(hs:P.cellsOf t=1):qbc P t 1 (fun a _=>.int .u8 a) U8:=
 ⟨hs,fun H enc w spare fuel cs x hx _=>by
  obtain⟨n,rfl,-,hw⟩:=DataW.trod_int h hx;have h1:IntKind.u8.min=0:=rfl;have h2:IntKind.u8.max=255:=rfl;simp only[Lit.wf,zi4,decide_eq_true_eq,h1,h2]at hw;exact⟨n,hw,rfl,fun j hj=>⟨_,by obtain rfl:j=0:=(by omega);rfl,rfl⟩⟩⟩
end
theorem zh4:qbc Try.prog 5 1 (fun a _=>.int .u8 a) U8:=.u8 Try.underlying5 (by kernel_rfl)
def q8p.e(x:Int×Int):Nat->T
 |0=>.int .u8 x.1
 |1=>.int .u8 x.2
 |_=>.any
theorem q5n:qbc Try.prog 64 2 q8p.e (fun x=>U8 x.1/\U8 x.2):=⟨by kernel_rfl,fun H enc w spare fuel cs x hx hw=>by
 obtain⟨a0,k0,r0⟩:=qbc.elt Try.underlying64 (i:=0) (by decide) zh4 hx hw;obtain⟨a1,k1,r1⟩:=qbc.elt Try.underlying64 (i:=1) (by decide) zh4 hx hw;refine⟨(a0,a1),⟨k0,k1⟩,(qbc.ziv Try.underlying64 hx).trans (by kernel_rfl),fun j hj=>?_⟩
 match j,hj with
 |0,_=>exact r0 0 (by decide)
 |1,_=>exact r1 0 (by decide)
 | n+2,h=>exact absurd h (by omega)⟩
theorem PC.wk4{P:Program}{f:FuncId}{args args':List V}{v:V}(h:PC P f args v)(hl:args'.length=args.length)(hw:∀j,j<args.length->Wk (args'.getD j .un) (args.getD j .un)):PC P f args' v:=
 ⟨fun F w cargs h1 h2 h3=>h.out F w cargs h1 (by rw[<- hl];exact h2) (fun j hj=>hw j hj _ _ _ _ _ (h3 j (by rw[hl];exact hj)))⟩
theorem irRotated_pc(f:Fn)(hf:f.ok)(x:Int×Int)(hx:U8 x.1/\U8 x.2):PC Try.prog 10 [f.v,.agg 2 (fun j=>.t (q8p.e x j))] (.t (.bool true)):=by
 have h:=Ctr.pc (c:=c10) (us:=[.st 6 f,.agg [.i .u8 x.1,.i .u8 x.2]]) (z:=⟨[],(f,(x.1,x.2,()),()),()⟩) rfl rfl (res:=(true,())) (qak ⟨hf,hx⟩);refine h.wk4 rfl (fun j hj=>?_)
 match j,hj with
 |0,_=>exact Wk.refl _
 |1,_=>
  refine Wk.agg fun j hj=>?_
  match j,hj with
  |0,_|1,_=>exact Wk.refl _
  |n+2,h=>exact absurd h (by show ¬ n+2<2;omega)
 |n+2,h=>exact absurd h (by show ¬ n+2<2;omega)
end
end Go.Abs
