/-
Texts of the proof, part 7: Zf Zg Rd Rg Za Zb Ze Zh Rh Rj Rk Zs Zk Zl Zu Zw W1 W3 Rm Rn Rp.
No statement of the program is proved here.
-/
import Derived.Test.YtlcholjffgaemaaM6
set_option linter.unusedVariables false
set_option linter.unusedSectionVars false
set_option linter.unusedSimpArgs false
set_option maxHeartbeats 1000000
namespace Go.Abs
open Go Go.Proofs
noncomputable section
def sh105:List OSh:=[(.cells 30 [.s,(.full 2),(.full 3),(.full 4),(.full 5),(.full 6)]),(.box 30 (.st 6)),(.lst 3 (.int .i64)),(.lst 53 (.st 4)),(.lst 55 (.st 5)),(.lst 3 (.int .i64)),(.lst 41 (.st 11))]
def sh106:List OSh:=[(.cells 30 [.s,(.full 3),(.full 4),(.full 5),(.full 6),(.full 2)]),(.box 30 (.st 6)),(.lst 41 (.st 11)),(.lst 3 (.int .i64)),(.lst 53 (.st 4)),(.lst 55 (.st 5)),(.lst 3 (.int .i64))]
def sh107:List OSh:=[(.cells 30 [.s,(.full 5),(.full 6),(.full 7),(.full 8),(.full 9)]),(.box 30 (.st 6)),(.mp false (.int .i64)),(.cells 25 [(.full 10)]),(.lst 41 (.st 14)),(.lst 3 (.int .i64)),(.lst 53 (.st 4)),(.lst 55 (.st 5)),(.lst 3 (.int .i64)),(.lst 41 (.st 14)),(.lst 3 (.int .i64))]
def sh108:List OSh:=[(.cells 30 [.s,(.full 8),(.full 9),(.full 10),(.full 11),(.full 12)]),(.box 30 (.st 6)),(.mp false (.int .i64)),(.cells 25 [(.full 13)]),(.cells 23 [(.fn 67 [(.ptr 0 0),(.ptr 14 0),(.ptr 3 0)])]),(.lst 41 (.st 14)),(.cells 41 [(.full 15),(.full 16),(.i .i64),(.i .i64),(.full 17),(.full 18),(.i .i64),(.i .i64),(.i .i64)]),(.lst 3 (.int .i64)),(.lst 3 (.int .i64)),(.lst 53 (.st 4)),(.lst 55 (.st 5)),(.lst 3 (.int .i64)),(.lst 41 (.st 14)),(.lst 3 (.int .i64)),(.cells 91 [(.qca 19)]),(.lst 3 (.int .i64)),(.lst 46 (.st 8)),(.lst 51 (.st 9)),(.lst 3 (.int .i64)),(.mp false (.int .i64))]
def sh109:List OSh:=[(.box 41 (.st 3)),(.box 41 (.st 3))]
def sh110:List OSh:=[(.box 30 (.st 6)),(.box 30 (.st 6))]
def sh84:SSh:=⟨[(1,(.ptr 0 0)),(2,(.ptr 1 0))],sh105⟩
def sh85:SSh:=⟨[(1,(.ptr 0 0)),(2,(.ptr 1 0)),(29,(.i .i64)),(30,(.i .i64))],sh105⟩
def sh86:SSh:=⟨[(1,(.ptr 0 0)),(2,(.ptr 1 0)),(4,(.q3v 2 0)),(29,(.i .i64)),(30,(.i .i64))],sh106⟩
def sh87:SSh:=⟨[(1,(.ptr 0 0)),(2,(.ptr 1 0)),(4,(.q3v 2 0)),(29,(.i .i64)),(30,(.i .i64)),(57,(.i .i64)),(58,(.i .i64))],sh106⟩
def sh88:SSh:=⟨[(1,(.ptr 0 0)),(2,(.ptr 1 0)),(4,(.q3v 2 0)),(29,(.i .i64)),(30,(.i .i64)),(103,(.i .i64)),(104,(.i .i64))],sh106⟩
def sh89:SSh:=⟨[(1,(.ptr 0 0)),(2,(.ptr 1 0)),(4,(.qca 2)),(6,(.ptr 3 0)),(9,(.full 4))],sh107⟩
def sh90:SSh:=⟨[(1,(.ptr 0 0)),(2,(.ptr 1 0)),(4,(.qca 2)),(6,(.ptr 3 0)),(7,(.ptr 4 0)),(8,(.fn 68 [(.ptr 4 0)])),(9,(.full 5)),(25,(.full 6)),(26,(.i .i64)),(27,(.i .i64))],[(.cells 30 [.s,(.full 7),(.full 8),(.full 9),(.full 10),(.full 11)]),(.box 30 (.st 6)),(.mp false (.int .i64)),(.cells 25 [(.full 12)]),(.cells 23 [(.fn 67 [(.ptr 0 0),(.ptr 13 0),(.ptr 3 0)])]),(.lst 41 (.st 14)),(.lst 3 (.int .i64)),(.lst 3 (.int .i64)),(.lst 53 (.st 4)),(.lst 55 (.st 5)),(.lst 3 (.int .i64)),(.lst 41 (.st 14)),(.lst 3 (.int .i64)),(.cells 91 [(.qca 14)]),(.mp false (.int .i64))]⟩
def sh91:SSh:=⟨[(1,(.ptr 0 0)),(2,(.ptr 1 0)),(4,(.qca 2)),(6,(.ptr 3 0)),(7,(.ptr 4 0)),(8,(.fn 68 [(.ptr 4 0)])),(9,(.full 5)),(12,(.ptr 6 0)),(25,(.full 7)),(26,(.i .i64)),(27,(.i .i64))],sh108⟩
def sh92:SSh:=⟨[(1,(.ptr 0 0)),(2,(.ptr 1 0)),(4,(.qca 2)),(6,(.ptr 3 0)),(7,(.ptr 4 0)),(8,(.fn 68 [(.ptr 4 0)])),(9,(.full 5)),(12,(.ptr 6 0)),(25,(.full 7)),(26,(.i .i64)),(27,(.i .i64)),(46,(.i .i64)),(47,(.i .i64))],sh108⟩
def sh93:SSh:=⟨[(1,(.ptr 0 0)),(2,(.ptr 1 0)),(4,(.qca 2)),(6,(.ptr 3 0)),(7,(.ptr 4 0)),(8,(.fn 68 [(.ptr 4 0)])),(9,(.full 5)),(12,(.ptr 6 0)),(25,(.full 7)),(26,(.i .i64)),(27,(.i .i64)),(91,(.i .i64)),(92,(.i .i64))],sh108⟩
def sh94:SSh:=⟨[(1,(.ptr 0 0)),(2,(.ptr 1 0)),(6,(.ptr 2 0)),(9,(.full 3))],[(.cells 30 [.s,(.full 4),(.full 5),(.full 6),(.full 7),(.full 8)]),(.box 30 (.st 6)),(.cells 25 [(.full 9)]),(.lst 41 (.st 14)),(.lst 3 (.int .i64)),(.lst 53 (.st 4)),(.lst 55 (.st 5)),(.lst 3 (.int .i64)),(.lst 41 (.st 14)),(.lst 3 (.int .i64))]⟩
def sh95:SSh:=⟨[(1,(.ptr 0 0)),(2,(.ptr 1 0)),(4,(.qca 2)),(6,(.ptr 3 0)),(9,(.full 4)),(111,(.i .i64)),(112,(.i .i64))],sh107⟩
def sh96:SSh:=⟨[(1,(.ptr 0 0)),(2,(.ptr 1 0)),(4,(.qca 2)),(6,(.ptr 3 0)),(9,(.full 4)),(15,(.i .i64)),(111,(.i .i64)),(112,(.i .i64)),(121,(.i .i64)),(122,(.i .i64))],sh107⟩
def sh97:SSh:=⟨[(2,(.ptr 0 0)),(3,(.ptr 1 0))],sh109⟩
def sh98:SSh:=⟨[(2,(.ptr 0 0)),(3,(.ptr 1 0)),(5,(.i .i64))],sh109⟩
def sh99:SSh:=⟨[(4,.b)],[]⟩
def sh100:SSh:=⟨[(2,(.ptr 0 0)),(3,(.ptr 1 0)),(6,(.i .i64))],sh109⟩
def sh101:SSh:=⟨[(2,(.ptr 0 0)),(3,(.ptr 1 0))],sh110⟩
def sh102:SSh:=⟨[(2,(.ptr 0 0)),(3,(.ptr 1 0)),(5,(.i .i64))],sh110⟩
def sh103:SSh:=⟨[(2,(.ptr 0 0)),(3,(.ptr 1 0)),(6,(.i .i64))],sh110⟩
def sh104:SSh:=⟨[(2,(.ptr 0 0)),(3,(.ptr 1 0)),(7,(.i .i64))],sh110⟩
abbrev ty77:=(Unit×(Unit×(Unit×(Unit×(Unit×Unit)))))
abbrev ty69:=((ByteArray×ty77)×(Fn×((qb1->(Option Int))×((Unit×Unit)×(((Unit×(Unit×(Unit×Unit)))×Unit)×((List qac)×((Unit×(Unit×(Int×(Int×(Unit×(Unit×(Int×(Int×(Int×Unit)))))))))×((List Int)×((List Int)×((List Arr)×((List qbd)×((List Int)×((List qac)×((List Int)×((Unit×Unit)×((List Int)×((List qai)×((List qam)×((List Int)×((qb1->(Option Int))×Unit))))))))))))))))))))
abbrev ty70:=((ByteArray×ty77)×(Fn×((qb1->(Option Int))×((Unit×Unit)×((List qac)×((List Int)×((List Arr)×((List qbd)×((List Int)×((List qac)×((List Int)×Unit)))))))))))
abbrev ty78:=(Unit×(Unit×(Int×(Int×Unit))))
abbrev ty71:=((Unit×(Unit×(Unit×(Unit×(Unit×((Unit×Unit)×ty78))))))×((ByteArray×ty77)×(Fn×((qb1->(Option Int))×((Unit×Unit)×(((Unit×(Unit×(Unit×Unit)))×Unit)×((List qac)×((List Int)×((List Int)×((List Arr)×((List qbd)×((List Int)×((List qac)×((List Int)×((Unit×Unit)×((qb1->(Option Int))×Unit))))))))))))))))
abbrev ty72:=((Unit×(Unit×(Unit×(Unit×(Unit×((Unit×Unit)×(Unit×(Unit×(Unit×(Int×(Int×(Int×(Int×Unit)))))))))))))×ty69)
abbrev ty73:=((Unit×(Unit×(Nat×(Int×(Int×(Int×(Int×Unit)))))))×((ByteArray×ty77)×(Fn×((List qab)×((List Int)×((List Arr)×((List qbd)×((List Int)×Unit))))))))
abbrev ty74:=((ByteArray×ty77)×(Fn×((List Int)×((List Arr)×((List qbd)×((List Int)×((List qab)×Unit)))))))
abbrev ty75:=((Unit×(Unit×(Unit×(Unit×(Unit×((Unit×Unit)×(Unit×ty78)))))))×ty69)
abbrev ty76:=((Unit×(Unit×(Int×Unit)))×(Fn×(Fn×Unit)))
abbrev ty79:=((Unit×(Unit×(Int×Unit)))×(Block×(Block×Unit)))
abbrev ty80:=(Option ((ByteArray×ty77)×((List Int)×((List Arr)×((List qbd)×((List Int)×((List qab)×Unit)))))))
abbrev ty81:=((Unit×(Unit×(Unit×(Unit×(Unit×(Int×(Int×(Int×(Int×(Int×Unit))))))))))×ty70)
abbrev ty82:=(ty76⊕(((Unit×(Unit×Unit))×(Fn×(Fn×Unit)))⊕((Bool×Unit)×Unit)))
abbrev cl83:=(qac.mk (@Ox.fz Int Int ([]:List Int)) (@Ox.fz qai qat ([]:List qat)) qau.z 0 0 0)
def ann60:Ann:=(.seq .o (.join ⟨[(0,(.fz (.int .i64)))],[]⟩ (.seq .o (.cond .o .o)) (.seq .o .o)))
def go60_j1:(((List Int)×Unit)×Unit)->Option (Unit×((List Int)×Unit)):=(fun z0=>(grd (okB ((((0+z0.1.1.length)*8)<=140737488355328)/\((0+z0.1.1.length)<=281474976710656))) (some ((),((([]:List Int)++z0.1.1),())))))
def go60(x0:(List Int)):(Option (Unit×((List Int)×Unit))):=(jpO (go60_j1) (fun j0=>(grd (okB ((x0=([]:List Int))->((some ((),(([]:List Int),())))=(j0 ((x0,()),()))))) (j0 ((x0,()),())))))
theorem run60(x0:(List Int)):qdd (P:=Try.prog) [] Try.f60 ann60 [(0,(.fz (.int .i64)))] [] (.full 0) [(.lst 3 (.int .i64))] (x0,()) ()=go60 x0:=by kernel_rfl
theorem ok60(x:List Int)(h:x.length*8<=reachBytes):go60 x=some ((),x,()):=by
 simp only[reachBytes]at h;have hj:go60_j1 ((x,()),())=some ((),x,()):=by
  unfold go60_j1;rw[qak ⟨by simp only;omega,by simp only;omega⟩]
  rfl
 unfold go60;rw[qcp,hj,qak (fun e=>by rw[e])]
def c60:Ctr Try.prog:=qbl 60 Try.f60 Try.func60 [] ann60 [(0,(.fz (.int .i64)))] [] (.full 0) [(.lst 3 (.int .i64))] (fun x _=>grd (okB (x.1.length*8<=reachBytes)) (some ((),x.1,()))) (fun x _ r h=>FO (run60 x.1) (ok60 x.1) h)
def ann61:Ann:=(.seq .o (.join ⟨[(0,(.fz (.st 4)))],[]⟩ (.seq .o (.cond .o .o)) (.seq .o .o)))
def go61_j1:(((List Arr)×Unit)×Unit)->Option (Unit×((List Arr)×Unit)):=(fun z0=>(grd (okB ((((0+z0.1.1.length)*48)<=140737488355328)/\((0+z0.1.1.length)<=281474976710656))) (some ((),((([]:List Arr)++z0.1.1),())))))
def go61(x0:(List Arr)):(Option (Unit×((List Arr)×Unit))):=(jpO (go61_j1) (fun j0=>(grd (okB ((x0=([]:List Arr))->((some ((),(([]:List Arr),())))=(j0 ((x0,()),()))))) (j0 ((x0,()),())))))
theorem run61(x0:(List Arr)):qdd (P:=Try.prog) [] Try.f61 ann61 [(0,(.fz (.st 4)))] [] (.full 0) [(.lst 53 (.st 4))] (x0,()) ()=go61 x0:=by kernel_rfl
theorem ok61(x:List Arr)(h:x.length*48<=reachBytes):go61 x=some ((),x,()):=by
 simp only[reachBytes]at h;have hj:go61_j1 ((x,()),())=some ((),x,()):=by
  unfold go61_j1;rw[qak ⟨by simp only;omega,by simp only;omega⟩]
  rfl
 unfold go61;rw[qcp,hj,qak (fun e=>by rw[e])]
def c61:Ctr Try.prog:=qbl 61 Try.f61 Try.func61 [] ann61 [(0,(.fz (.st 4)))] [] (.full 0) [(.lst 53 (.st 4))] (fun x _=>grd (okB (x.1.length*48<=reachBytes)) (some ((),x.1,()))) (fun x _ r h=>FO (run61 x.1) (ok61 x.1) h)
def ann62:Ann:=(.seq .o (.join ⟨[(0,(.fz (.st 5)))],[]⟩ (.seq .o (.cond .o .o)) (.seq .o .o)))
def go62_j1:(((List qbd)×Unit)×Unit)->Option (Unit×((List qbd)×Unit)):=(fun z0=>(grd (okB ((((0+z0.1.1.length)*32)<=140737488355328)/\((0+z0.1.1.length)<=281474976710656))) (some ((),((([]:List qbd)++z0.1.1),())))))
def go62(x0:(List qbd)):(Option (Unit×((List qbd)×Unit))):=(jpO (go62_j1) (fun j0=>(grd (okB ((x0=([]:List qbd))->((some ((),(([]:List qbd),())))=(j0 ((x0,()),()))))) (j0 ((x0,()),())))))
theorem run62(x0:(List qbd)):qdd (P:=Try.prog) [] Try.f62 ann62 [(0,(.fz (.st 5)))] [] (.full 0) [(.lst 55 (.st 5))] (x0,()) ()=go62 x0:=by kernel_rfl
theorem ok62(x:List qbd)(h:x.length*32<=reachBytes):go62 x=some ((),x,()):=by
 simp only[reachBytes]at h;have hj:go62_j1 ((x,()),())=some ((),x,()):=by
  unfold go62_j1;rw[qak ⟨by simp only;omega,by simp only;omega⟩]
  rfl
 unfold go62;rw[qcp,hj,qak (fun e=>by rw[e])]
def c62:Ctr Try.prog:=qbl 62 Try.f62 Try.func62 [] ann62 [(0,(.fz (.st 5)))] [] (.full 0) [(.lst 55 (.st 5))] (fun x _=>grd (okB (x.1.length*32<=reachBytes)) (some ((),x.1,()))) (fun x _ r h=>FO (run62 x.1) (ok62 x.1) h)
def ann63:Ann:=(.seq .o (.join ⟨[(0,(.fz (.st 3)))],[]⟩ (.seq .o (.cond .o .o)) (.seq .o .o)))
def go63_j1:(((List Block)×Unit)×Unit)->Option (Unit×((List Block)×Unit)):=(fun z0=>(grd (okB ((((0+z0.1.1.length)*136)<=140737488355328)/\((0+z0.1.1.length)<=281474976710656))) (some ((),((([]:List Block)++z0.1.1),())))))
def go63(x0:(List Block)):(Option (Unit×((List Block)×Unit))):=(jpO (go63_j1) (fun j0=>(grd (okB ((x0=([]:List Block))->((some ((),(([]:List Block),())))=(j0 ((x0,()),()))))) (j0 ((x0,()),())))))
theorem run63(x0:(List Block)):qdd (P:=Try.prog) [] Try.f63 ann63 [(0,(.fz (.st 3)))] [] (.full 0) [(.lst 41 (.st 3))] (x0,()) ()=go63 x0:=by kernel_rfl
theorem ok63(x:List Block)(h:x.length*136<=reachBytes):go63 x=some ((),x,()):=by
 simp only[reachBytes]at h;have hj:go63_j1 ((x,()),())=some ((),x,()):=by
  unfold go63_j1;rw[qak ⟨by simp only;omega,by simp only;omega⟩]
  rfl
 unfold go63;rw[qcp,hj,qak (fun e=>by rw[e])]
def c63:Ctr Try.prog:=qbl 63 Try.f63 Try.func63 [] ann63 [(0,(.fz (.st 3)))] [] (.full 0) [(.lst 41 (.st 3))] (fun x _=>grd (okB (x.1.length*136<=reachBytes)) (some ((),x.1,()))) (fun x _ r h=>FO (run63 x.1) (ok63 x.1) h)
def ann64:Ann:=(.seq .o (.join ⟨[(0,(.fz (.st 0)))],[]⟩ (.seq .o (.cond .o .o)) (.seq .o .o)))
def go64_j1:(((List qat)×Unit)×Unit)->Option (Unit×((List qat)×Unit)):=(fun z0=>(grd (okB ((((0+z0.1.1.length)*56)<=140737488355328)/\((0+z0.1.1.length)<=281474976710656))) (some ((),((([]:List qat)++z0.1.1),())))))
def go64(x0:(List qat)):(Option (Unit×((List qat)×Unit))):=(jpO (go64_j1) (fun j0=>(grd (okB ((x0=([]:List qat))->((some ((),(([]:List qat),())))=(j0 ((x0,()),()))))) (j0 ((x0,()),())))))
theorem run64(x0:(List qat)):qdd (P:=Try.prog) [] Try.f64 ann64 [(0,(.fz (.st 0)))] [] (.full 0) [(.lst 46 (.st 0))] (x0,()) ()=go64 x0:=by kernel_rfl
theorem ok64(x:List qat)(h:x.length*56<=reachBytes):go64 x=some ((),x,()):=by
 simp only[reachBytes]at h;have hj:go64_j1 ((x,()),())=some ((),x,()):=by
  unfold go64_j1;rw[qak ⟨by simp only;omega,by simp only;omega⟩]
  rfl
 unfold go64;rw[qcp,hj,qak (fun e=>by rw[e])]
def c64:Ctr Try.prog:=qbl 64 Try.f64 Try.func64 [] ann64 [(0,(.fz (.st 0)))] [] (.full 0) [(.lst 46 (.st 0))] (fun x _=>grd (okB (x.1.length*56<=reachBytes)) (some ((),x.1,()))) (fun x _ r h=>FO (run64 x.1) (ok64 x.1) h)
def ann65:Ann:=(.seq .o (.join ⟨[(0,(.fz (.st 1)))],[]⟩ (.seq .o (.cond .o .o)) (.seq .o .o)))
def go65_j1:(((List Edge)×Unit)×Unit)->Option (Unit×((List Edge)×Unit)):=(fun z0=>(grd (okB ((((0+z0.1.1.length)*32)<=140737488355328)/\((0+z0.1.1.length)<=281474976710656))) (some ((),((([]:List Edge)++z0.1.1),())))))
def go65(x0:(List Edge)):(Option (Unit×((List Edge)×Unit))):=(jpO (go65_j1) (fun j0=>(grd (okB ((x0=([]:List Edge))->((some ((),(([]:List Edge),())))=(j0 ((x0,()),()))))) (j0 ((x0,()),())))))
theorem run65(x0:(List Edge)):qdd (P:=Try.prog) [] Try.f65 ann65 [(0,(.fz (.st 1)))] [] (.full 0) [(.lst 51 (.st 1))] (x0,()) ()=go65 x0:=by kernel_rfl
theorem ok65(x:List Edge)(h:x.length*32<=reachBytes):go65 x=some ((),x,()):=by
 simp only[reachBytes]at h;have hj:go65_j1 ((x,()),())=some ((),x,()):=by
  unfold go65_j1;rw[qak ⟨by simp only;omega,by simp only;omega⟩]
  rfl
 unfold go65;rw[qcp,hj,qak (fun e=>by rw[e])]
def c65:Ctr Try.prog:=qbl 65 Try.f65 Try.func65 [] ann65 [(0,(.fz (.st 1)))] [] (.full 0) [(.lst 51 (.st 1))] (fun x _=>grd (okB (x.1.length*32<=reachBytes)) (some ((),x.1,()))) (fun x _ r h=>FO (run65 x.1) (ok65 x.1) h)
end
end Go.Abs
namespace Go.Abs
open Go Go.Proofs
noncomputable section
def ann25:Ann:=(.seq .o (.seq (.x ⟨false,false,false,false,[],[],[0,1,3,0,8,31,0,64,255,0,512,2047,0,4096,16383,14047,65535,131071,262143,524287,1048575,2097151,4194303,8388607,16777215],(.fl 0 (.rd 1 (.fl 3 (.rd 4 (.fl 6 (.rd 7 (.fl 9 (.rd 10 (.fl 12 (.rd 13 (.on 2 (.fl 15 (.on 5 (.on 8 (.on 11 (.on 14 (.on 16 (.qu [17] (.on 18 (.qu [19] (.on 20 (.qu [21] (.on 22 (.qu [23] (.on 24 .nil)))))))))))))))))))))))))⟩) (.join sh84 (.seq .o (.block (.loop sh85 [((.exit 0),sh84)] (.seq .o (.join sh85 (.cond .o .o) (.join sh85 (.block (.seq .o (.seq .o (.seq (.x ⟨false,false,false,false,[],[],[0,0,0,4,12,28,60,0,128,384,896,2044,4093,8189,16381,32767,65535,131071],(.fl 0 (.fl 1 (.fl 2 (.fl 3 (.fl 4 (.rd 5 (.fl 7 (.fl 8 (.fl 9 (.rd 10 (.on 6 (.on 11 (.qu [12,13] (.on 14 (.qu [15,16] (.on 17 .nil))))))))))))))))⟩) (.join sh86 (.seq (.x ⟨false,false,false,false,[36],[],[],.no⟩) (.block (.loop sh87 [((.exit 2),sh86)] (.seq .o (.join sh87 (.cond .o .o) (.join sh87 (.block (.seq .o (.x ⟨false,false,false,false,[36],[],[0,1,3,7,0,0,32,96,224,0,992,2016,4064,8160,16383,32767,65535],(.fl 0 (.fl 1 (.fl 2 (.rd 3 (.fl 4 (.qu [5,6,7,8,9,10,11,12] (.on 13 (.qu [14,15] (.on 16 .nil)))))))))⟩))) .o)))))) (.seq (.x ⟨false,false,false,false,[],[],[0,0,0,4,12,28,60,124,0,256,768,1792,3840,8188,16381,32765,65533,131069,262143,524287,1048575,2097151],(.fl 0 (.fl 1 (.fl 2 (.fl 3 (.fl 4 (.fl 5 (.rd 6 (.fl 8 (.fl 9 (.fl 10 (.fl 11 (.rd 12 (.on 7 (.on 13 (.qu [14,15,16] (.on 17 (.qu [18,19,20] (.on 21 .nil))))))))))))))))))⟩) (.seq (.x ⟨false,false,false,false,[37],[],[],.no⟩) (.block (.loop sh88 [((.exit 4),sh85)] (.seq .o (.join sh88 (.cond .o .o) (.join sh88 (.block (.seq .o (.x ⟨false,false,false,false,[37],[],[0,1,3,7,15,0,0,64,192,448,960,0,4032,8128,16320,32704,65535,131071,262143],(.fl 0 (.fl 1 (.fl 2 (.fl 3 (.rd 4 (.fl 5 (.qu [6,7,8,9,10,11,12,13,14] (.on 15 (.qu [16,17] (.on 18 .nil))))))))))⟩))) .o)))))))))))) .o)))))) (.seq .o .o))))
def go25_l3:ty73->Option (ty73⊕(ty78×ty74)):=(fun r10=>(bif(decide (r10.1.2.2.2.2.2.2.1<r10.1.2.2.2.2.2.1))then(grd (Nat.blt r10.1.2.2.1 r10.2.2.2.1.length) (qaj (@Sp.qgx qam Edge (r10.2.2.2.1.getD r10.1.2.2.1 qab.z).term.to) (fun z3=>(grd (Nat.blt r10.1.2.2.1 r10.2.2.2.1.length) (qaj (@Sp.qgx qam Edge (r10.2.2.2.1.getD r10.1.2.2.1 qab.z).term.to) (fun z4=>(qaj (@Sp.qgx qam Edge (r10.2.2.2.1.getD r10.1.2.2.1 qab.z).term.to) (fun l10=>(grd (okB ((0<=r10.1.2.2.2.2.2.2.1)/\(r10.1.2.2.2.2.2.2.1<(l10.length:Int)))) (qaj (@Sp.qgx qam Edge (r10.2.2.2.1.getD r10.1.2.2.1 qab.z).term.to) (fun l11=>(qaj (@Sp.qgx qam Edge (r10.2.2.2.1.getD r10.1.2.2.1 qab.z).term.to) (fun l12=>(grd (Nat.blt r10.1.2.2.2.2.2.2.1.toNat l12.length) (qaj (@Sp.qsp Int Int (l12.getD r10.1.2.2.2.2.2.2.1.toNat qam.z).args) (fun l13=>(qaj (grd (okB ((l13.length*8)<=Go.reachBytes)) (some ((),(l13,())))) (fun r11=>(qaj (@Sp.qgx qam Edge (r10.2.2.2.1.getD r10.1.2.2.1 qab.z).term.to) (fun l14=>(grd (okB ((0<=r10.1.2.2.2.2.2.2.1)/\(r10.1.2.2.2.2.2.2.1<(l14.length:Int)))) (qaj (@Sp.qgx qam Edge (r10.2.2.2.1.getD r10.1.2.2.1 qab.z).term.to) (fun l15=>(qaj (@Sp.qgx qam Edge (r10.2.2.2.1.getD r10.1.2.2.1 qab.z).term.to) (fun l16=>(grd (Nat.blt r10.1.2.2.2.2.2.2.1.toNat l16.length) (shO (r10.2.2.2.1.set r10.1.2.2.1 (qab.mk (r10.2.2.2.1.getD r10.1.2.2.1 qab.z).params (r10.2.2.2.1.getD r10.1.2.2.1 qab.z).insts (qas.mk (r10.2.2.2.1.getD r10.1.2.2.1 qab.z).term.kind (r10.2.2.2.1.getD r10.1.2.2.1 qab.z).term.cond (@Ow.own qam Edge (l16.set r10.1.2.2.2.2.2.2.1.toNat (qam.mk (l16.getD r10.1.2.2.2.2.2.2.1.toNat qam.z).block (@Ow.own Int Int r11.2.1)))) (r10.2.2.2.1.getD r10.1.2.2.1 qab.z).term.qax) (r10.2.2.2.1.getD r10.1.2.2.1 qab.z).qar (r10.2.2.2.1.getD r10.1.2.2.1 qab.z).qa9 (r10.2.2.2.1.getD r10.1.2.2.1 qab.z).line)) (fun l17=>(grd (okB (((-9223372036854775808)<=(r10.1.2.2.2.2.2.2.1+1))/\((r10.1.2.2.2.2.2.2.1+1)<=9223372036854775807))) (some (Sum.inl (((),((),(r10.1.2.2.1,(r10.1.2.2.2.1,(r10.1.2.2.2.2.1,(r10.1.2.2.2.2.2.1,((r10.1.2.2.2.2.2.2.1+1),()))))))),((r10.2.1.1,((),((),((),((),((),())))))),(r10.2.2.1,(l17,(r10.2.2.2.2.1,(r10.2.2.2.2.2.1,(r10.2.2.2.2.2.2.1,(r10.2.2.2.2.2.2.2.1,())))))))))))))))))))))))))))))))))))))))else(some (Sum.inr (((),((),(r10.1.2.2.2.1,(r10.1.2.2.2.2.1,())))),((r10.2.1.1,((),((),((),((),((),())))))),(r10.2.2.1,(r10.2.2.2.2.1,(r10.2.2.2.2.2.1,(r10.2.2.2.2.2.2.1,(r10.2.2.2.2.2.2.2.1,(r10.2.2.2.1,()))))))))))))
def go25_l2:ty73->Option (ty73⊕((Unit×(Unit×(Nat×(Int×(Int×Unit)))))×((ByteArray×ty77)×(Fn×((List qab)×((List Int)×((List Arr)×((List qbd)×((List Int)×Unit))))))))):=(fun r8=>(bif(decide (r8.1.2.2.2.2.2.2.1<r8.1.2.2.2.2.2.1))then(grd (Nat.blt r8.1.2.2.1 r8.2.2.2.1.length) (qaj (@Sp.qgx qai qat (r8.2.2.2.1.getD r8.1.2.2.1 qab.z).insts) (fun z1=>(grd (Nat.blt r8.1.2.2.1 r8.2.2.2.1.length) (qaj (@Sp.qgx qai qat (r8.2.2.2.1.getD r8.1.2.2.1 qab.z).insts) (fun z2=>(qaj (@Sp.qgx qai qat (r8.2.2.2.1.getD r8.1.2.2.1 qab.z).insts) (fun l5=>(grd (okB ((0<=r8.1.2.2.2.2.2.2.1)/\(r8.1.2.2.2.2.2.2.1<(l5.length:Int)))) (qaj (@Sp.qgx qai qat (r8.2.2.2.1.getD r8.1.2.2.1 qab.z).insts) (fun l6=>(qaj (@Sp.qgx qai qat (r8.2.2.2.1.getD r8.1.2.2.1 qab.z).insts) (fun l7=>(grd (Nat.blt r8.1.2.2.2.2.2.2.1.toNat l7.length) (qaj (@Sp.qsp Int Int (l7.getD r8.1.2.2.2.2.2.2.1.toNat qai.z).args) (fun l8=>(qaj (grd (okB ((l8.length*8)<=Go.reachBytes)) (some ((),(l8,())))) (fun r9=>(qaj (@Sp.qgx qai qat (r8.2.2.2.1.getD r8.1.2.2.1 qab.z).insts) (fun l9=>(grd (okB ((0<=r8.1.2.2.2.2.2.2.1)/\(r8.1.2.2.2.2.2.2.1<(l9.length:Int)))) (qaj (@Sp.qgx qai qat (r8.2.2.2.1.getD r8.1.2.2.1 qab.z).insts) (fun l10=>(qaj (@Sp.qgx qai qat (r8.2.2.2.1.getD r8.1.2.2.1 qab.z).insts) (fun l11=>(grd (Nat.blt r8.1.2.2.2.2.2.2.1.toNat l11.length) (shO (r8.2.2.2.1.set r8.1.2.2.1 (qab.mk (r8.2.2.2.1.getD r8.1.2.2.1 qab.z).params (@Ow.own qai qat (l11.set r8.1.2.2.2.2.2.2.1.toNat (qai.mk (l11.getD r8.1.2.2.2.2.2.2.1.toNat qai.z).op (l11.getD r8.1.2.2.2.2.2.2.1.toNat qai.z).dest (@Ow.own Int Int r9.2.1) (l11.getD r8.1.2.2.2.2.2.2.1.toNat qai.z).num (l11.getD r8.1.2.2.2.2.2.2.1.toNat qai.z).mem))) (r8.2.2.2.1.getD r8.1.2.2.1 qab.z).term (r8.2.2.2.1.getD r8.1.2.2.1 qab.z).qar (r8.2.2.2.1.getD r8.1.2.2.1 qab.z).qa9 (r8.2.2.2.1.getD r8.1.2.2.1 qab.z).line)) (fun l12=>(grd (okB (((-9223372036854775808)<=(r8.1.2.2.2.2.2.2.1+1))/\((r8.1.2.2.2.2.2.2.1+1)<=9223372036854775807))) (some (Sum.inl (((),((),(r8.1.2.2.1,(r8.1.2.2.2.1,(r8.1.2.2.2.2.1,(r8.1.2.2.2.2.2.1,((r8.1.2.2.2.2.2.2.1+1),()))))))),((r8.2.1.1,((),((),((),((),((),())))))),(r8.2.2.1,(l12,(r8.2.2.2.2.1,(r8.2.2.2.2.2.1,(r8.2.2.2.2.2.2.1,(r8.2.2.2.2.2.2.2.1,())))))))))))))))))))))))))))))))))))))))else(some (Sum.inr (((),((),(r8.1.2.2.1,(r8.1.2.2.2.1,(r8.1.2.2.2.2.1,()))))),((r8.2.1.1,((),((),((),((),((),())))))),(r8.2.2.1,(r8.2.2.2.1,(r8.2.2.2.2.1,(r8.2.2.2.2.2.1,(r8.2.2.2.2.2.2.1,(r8.2.2.2.2.2.2.2.1,()))))))))))))
def go25_l1:(ty78×ty74)->Option ((ty78×ty74)⊕((Unit×(Unit×Unit))×ty74)):=(fun r5=>(bif(decide (r5.1.2.2.2.1<r5.1.2.2.1))then(grd (okB ((0<=r5.1.2.2.2.1)/\(r5.1.2.2.2.1<(r5.2.2.2.2.2.2.2.1.length:Int)))) (grd (Nat.blt r5.1.2.2.2.1.toNat r5.2.2.2.2.2.2.2.1.length) (qaj (@Sp.qsp Int Int (r5.2.2.2.2.2.2.2.1.getD r5.1.2.2.2.1.toNat qab.z).params) (fun l0=>(grd (Nat.blt r5.1.2.2.2.1.toNat r5.2.2.2.2.2.2.2.1.length) (qaj (@Sp.qsp qai qat (r5.2.2.2.2.2.2.2.1.getD r5.1.2.2.2.1.toNat qab.z).insts) (fun l1=>(qaj (grd (okB ((l0.length*8)<=Go.reachBytes)) (some ((),(l0,())))) (fun r6=>(qaj (grd (okB ((l1.length*56)<=Go.reachBytes)) (some ((),(l1,())))) (fun r7=>(grd (Nat.blt r5.1.2.2.2.1.toNat r5.2.2.2.2.2.2.2.1.length) (shO (r5.2.2.2.2.2.2.2.1.set r5.1.2.2.2.1.toNat (qab.mk (@Ow.own Int Int r6.2.1) (r5.2.2.2.2.2.2.2.1.getD r5.1.2.2.2.1.toNat qab.z).insts (r5.2.2.2.2.2.2.2.1.getD r5.1.2.2.2.1.toNat qab.z).term (r5.2.2.2.2.2.2.2.1.getD r5.1.2.2.2.1.toNat qab.z).qar (r5.2.2.2.2.2.2.2.1.getD r5.1.2.2.2.1.toNat qab.z).qa9 (r5.2.2.2.2.2.2.2.1.getD r5.1.2.2.2.1.toNat qab.z).line)) (fun l2=>(grd (Nat.blt r5.1.2.2.2.1.toNat l2.length) (shO (l2.set r5.1.2.2.2.1.toNat (qab.mk (l2.getD r5.1.2.2.2.1.toNat qab.z).params (@Ow.own qai qat (@List.map qat qai qai.up r7.2.1)) (l2.getD r5.1.2.2.2.1.toNat qab.z).term (l2.getD r5.1.2.2.2.1.toNat qab.z).qar (l2.getD r5.1.2.2.2.1.toNat qab.z).qa9 (l2.getD r5.1.2.2.2.1.toNat qab.z).line)) (fun l3=>(grd (Nat.blt r5.1.2.2.2.1.toNat l3.length) (qaj (@Sp.qgx qai qat (l3.getD r5.1.2.2.2.1.toNat qab.z).insts) (fun z0=>(qaj (@Sp.qgx qai qat (l3.getD r5.1.2.2.2.1.toNat qab.z).insts) (fun l4=>(qaj (qap (go25_l2) (((),((),(r5.1.2.2.2.1.toNat,(r5.1.2.2.1,(r5.1.2.2.2.1,((l4.length:Int),(0,()))))))),((r5.2.1.1,((),((),((),((),((),())))))),(r5.2.2.1,(l3,(r5.2.2.2.1,(r5.2.2.2.2.1,(r5.2.2.2.2.2.1,(r5.2.2.2.2.2.2.1,()))))))))) (fun z1=>(grd (Nat.blt z1.1.2.2.1 z1.2.2.2.1.length) (qaj (@Sp.qsp qam Edge (z1.2.2.2.1.getD z1.1.2.2.1 qab.z).term.to) (fun l5=>(grd (Nat.blt z1.1.2.2.1 z1.2.2.2.1.length) (qaj (@Sp.qsp Int Int (z1.2.2.2.1.getD z1.1.2.2.1 qab.z).term.qax) (fun l6=>(qaj (grd (okB ((l5.length*32)<=Go.reachBytes)) (some ((),(l5,())))) (fun r8=>(qaj (grd (okB ((l6.length*8)<=Go.reachBytes)) (some ((),(l6,())))) (fun r9=>(grd (Nat.blt z1.1.2.2.1 z1.2.2.2.1.length) (shO (z1.2.2.2.1.set z1.1.2.2.1 (qab.mk (z1.2.2.2.1.getD z1.1.2.2.1 qab.z).params (z1.2.2.2.1.getD z1.1.2.2.1 qab.z).insts (qas.mk (z1.2.2.2.1.getD z1.1.2.2.1 qab.z).term.kind (z1.2.2.2.1.getD z1.1.2.2.1 qab.z).term.cond (@Ow.own qam Edge (@List.map Edge qam qam.up r8.2.1)) (z1.2.2.2.1.getD z1.1.2.2.1 qab.z).term.qax) (z1.2.2.2.1.getD z1.1.2.2.1 qab.z).qar (z1.2.2.2.1.getD z1.1.2.2.1 qab.z).qa9 (z1.2.2.2.1.getD z1.1.2.2.1 qab.z).line)) (fun l7=>(grd (Nat.blt z1.1.2.2.1 l7.length) (shO (l7.set z1.1.2.2.1 (qab.mk (l7.getD z1.1.2.2.1 qab.z).params (l7.getD z1.1.2.2.1 qab.z).insts (qas.mk (l7.getD z1.1.2.2.1 qab.z).term.kind (l7.getD z1.1.2.2.1 qab.z).term.cond (l7.getD z1.1.2.2.1 qab.z).term.to (@Ow.own Int Int r9.2.1)) (l7.getD z1.1.2.2.1 qab.z).qar (l7.getD z1.1.2.2.1 qab.z).qa9 (l7.getD z1.1.2.2.1 qab.z).line)) (fun l8=>(grd (Nat.blt z1.1.2.2.1 l8.length) (qaj (@Sp.qgx qam Edge (l8.getD z1.1.2.2.1 qab.z).term.to) (fun z2=>(qaj (@Sp.qgx qam Edge (l8.getD z1.1.2.2.1 qab.z).term.to) (fun l9=>(qaj (qap (go25_l3) (((),((),(z1.1.2.2.1,(z1.1.2.2.2.1,(z1.1.2.2.2.2.1,((l9.length:Int),(0,()))))))),((z1.2.1.1,((),((),((),((),((),())))))),(z1.2.2.1,(l8,(z1.2.2.2.2.1,(z1.2.2.2.2.2.1,(z1.2.2.2.2.2.2.1,(z1.2.2.2.2.2.2.2.1,()))))))))) (fun z3=>(grd (okB (((-9223372036854775808)<=(z3.1.2.2.2.1+1))/\((z3.1.2.2.2.1+1)<=9223372036854775807))) (some (Sum.inl (((),((),(z3.1.2.2.1,((z3.1.2.2.2.1+1),())))),((z3.2.1.1,((),((),((),((),((),())))))),(z3.2.2.1,(z3.2.2.2.1,(z3.2.2.2.2.1,(z3.2.2.2.2.2.1,(z3.2.2.2.2.2.2.1,(z3.2.2.2.2.2.2.2.1,()))))))))))))))))))))))))))))))))))))))))))))))))))))))))))else(some (Sum.inr (((),((),())),((r5.2.1.1,((),((),((),((),((),())))))),(r5.2.2.1,(r5.2.2.2.1,(r5.2.2.2.2.1,(r5.2.2.2.2.2.1,(r5.2.2.2.2.2.2.1,(r5.2.2.2.2.2.2.2.1,()))))))))))))
def go25(x0:Fn):ty80:=(qaj (grd (okB ((x0.qaa.length*8)<=Go.reachBytes)) (some ((),(x0.qaa,())))) (fun r0=>(qaj (grd (okB ((x0.qag.length*48)<=Go.reachBytes)) (some ((),(x0.qag,())))) (fun r1=>(qaj (grd (okB ((x0.streams.length*32)<=Go.reachBytes)) (some ((),(x0.streams,())))) (fun r2=>(qaj (grd (okB ((x0.qax.length*8)<=Go.reachBytes)) (some ((),(x0.qax,())))) (fun r3=>(qaj (grd (okB ((x0.blocks.length*136)<=Go.reachBytes)) (some ((),(x0.blocks,())))) (fun r4=>(qaj (qap (go25_l1) (((),((),((r4.2.1.length:Int),(0,())))),((x0.name,((),((),((),((),((),())))))),(Fn.z,(r0.2.1,(r1.2.1,(r2.2.1,(r3.2.1,((@List.map Block qab qab.up r4.2.1),()))))))))) (fun z0=>(some ((z0.2.1.1,((),((),((),((),((),())))))),(z0.2.2.2.1,(z0.2.2.2.2.1,(z0.2.2.2.2.2.1,(z0.2.2.2.2.2.2.1,(z0.2.2.2.2.2.2.2.1,())))))))))))))))))))
theorem run25(x0:Fn):qdd (P:=Try.prog) [c60,c61,c62,c63,c64,c65] Try.f25 ann25 [(0,(.st 6))] [] (.agg [.s,(.full 0),(.full 1),(.full 2),(.full 3),(.full 4)]) [(.lst 3 (.int .i64)),(.lst 53 (.st 4)),(.lst 55 (.st 5)),(.lst 3 (.int .i64)),(.lst 41 (.st 11))] (x0,()) ()=go25 x0:=by kernel_rfl
section
variable {α β:Type}
def pre(f g:α->β)(l:List α)(i:Nat):List β:=(l.take i).map f++(l.drop i).map g
theorem qj5(f g:α->β)(l:List α)(i:Nat):(pre f g l i).length=l.length:=by simp[pre];omega
theorem q9l(f g:α->β)(l:List α):pre f g l 0=l.map g:=by simp[pre]
theorem qt0(f g:α->β)(l:List α):pre f g l l.length=l.map f:=by simp[pre]
theorem qtz(f g:α->β){l:List α}{i:Nat}(h:i<l.length)(z:β)(z0:α):(pre f g l i).getD i z=g (l.getD i z0):=by
 simp[pre,zi5,List.getElem?_append,h,Nat.min_eq_left (Nat.le_of_lt h)]
theorem qty(f g:α->β){l:List α}{i:Nat}(h:i<l.length)(z0:α):(pre f g l i).set i (f (l.getD i z0))=pre f g l (i+1):=by
 refine List.ext_getElem? fun j=>?_;simp only[pre,List.getElem?_set,zjh,zje,List.length_take,List.length_drop,List.getElem?_append,zkc,List.getElem?_take,List.getElem?_drop];by_cases hj:i=j
 ·subst hj;have e1:i<min i l.length+(l.length-i):=by omega
  have e2:i<min (i+1) l.length:=by omega
  simp[e1,e2,zi5,h]
 ·rw[if_neg hj];by_cases h1:j<i
  ·have e1:j<min i l.length:=by omega
   have e2:j<min (i+1) l.length:=by omega
   have e3:j<i+1:=by omega
   simp[e1,e2,e3,h1]
  ·have e1:¬ j<min i l.length:=by omega
   have e2:¬ j<min (i+1) l.length:=by omega
   have e4:i+(j-min i l.length)=i+1+(j-min (i+1) l.length):=by omega
   simp[e1,e2,e4]
theorem qtk{l:List β}{i:Nat}(h:i<l.length)(y z:β):(l.set i y).getD i z=y:=qgl h
end
def Sp.qc7(x:qat):qai:=⟨x.op,x.dest,.own x.args,x.num,x.mem⟩
def Sp.qcm(x:Edge):qam:=⟨x.block,.own x.args⟩
def Sp.qct(b:Block):qab:=⟨.own b.params,.own (b.insts.map Sp.qc7),⟨b.term.kind,b.term.cond,.own (b.term.to.map Sp.qcm),.own b.term.qax⟩,b.qar,b.qa9,b.line⟩
theorem qu2{α:Type}{by_:Nat}{ok:α->Prop}{l:List α}(h:All by_ ok l)(z:α){i:Nat}(hi:i<l.length):ok (l.getD i z):=qgm h z hi
theorem q97(nm:ByteArray)(fn:Fn)(w:List Int)(a:List Arr)(s:List qbd)(r:List Int)(B:List qab)(i:Nat)(hi:i<B.length)(ps:Ow Int Int)(is:List qat)(h:All 56 qat.ok is)(t:qas)(pi un li ln ix:Int) :
  qap go25_l2 (((),(),(i,ln,ix,((is.length:Nat):Int),(0:Int),())),((nm,(),(),(),(),(),()),fn,B.set i ⟨ps,.own (is.map qai.up),t,pi,un,li⟩,w,a,s,r,())) =
   some (((),(),(i,ln,ix,())),((nm,(),(),(),(),(),()),fn,B.set i ⟨ps,.own (is.map Sp.qc7),t,pi,un,li⟩,w,a,s,r,())):=by
 have hx:=h.len;rw[qcl]at hx;unfold go25_l2;refine qcj (st:=fun k=>(((),(),(i,ln,ix,((is.length:Nat):Int),(k:Int),())),((nm,(),(),(),(),(),()),fn,B.set i ⟨ps,.own (pre Sp.qc7 qai.up is k),t,pi,un,li⟩,w,a,s,r,()))) (by simp only[q9l];rfl) is.length (fun k hk=>?_) ?_
 ·have hg:qat.ok (is.getD k qat.z):=qu2 h _ hk;have hl:=hg.2.2.1.1;have hs:i<(B.set i ⟨ps,.own (pre Sp.qc7 qai.up is k),t,pi,un,li⟩).length:=by simpa using hi
  have e1:(pre Sp.qc7 qai.up is k).getD k qai.z=qai.up (is.getD k qat.z):=qtz _ _ hk _ _;have e2:k<(pre Sp.qc7 qai.up is k).length:=by rw[qj5];exact hk
  simp only[qds hs,qtk hi,Sp.qgx,qaf,zja,qds e2,e1,qai.up,Sp.qsp,qak hl,List.set_set,ql3,qj5];simp(maxSteps:=1000000) (disch:=((try dsimp only);omega)) only[↓gsA,gsB]
  have e3:=qty Sp.qc7 qai.up hk qat.z;simp only[Sp.qc7]at e3;simp only[Sp.qc7,e3]
 ·simp(maxSteps:=1000000) (disch:=((try dsimp only);omega)) only[↓gsA,gsB]
  simp only[qt0]
theorem q96(nm:ByteArray)(fn:Fn)(w:List Int)(a:List Arr)(s:List qbd)(r:List Int)(B:List qab)(i:Nat)(hi:i<B.length)(ps:Ow Int Int)(is:Ow qai qat)(kd cd:Int)(to:List Edge)(h:All 32 Edge.ok to)(rt:Ow Int Int)(pi un li ln ix:Int) :
  qap go25_l3 (((),(),(i,ln,ix,((to.length:Nat):Int),(0:Int),())),((nm,(),(),(),(),(),()),fn,B.set i ⟨ps,is,⟨kd,cd,.own (to.map qam.up),rt⟩,pi,un,li⟩,w,a,s,r,())) =
   some (((),(),(ln,ix,())),((nm,(),(),(),(),(),()),fn,w,a,s,r,B.set i ⟨ps,is,⟨kd,cd,.own (to.map Sp.qcm),rt⟩,pi,un,li⟩,())):=by
 have hx:=h.len;rw[qcl]at hx;unfold go25_l3;refine qcj (st:=fun k=>(((),(),(i,ln,ix,((to.length:Nat):Int),(k:Int),())),((nm,(),(),(),(),(),()),fn,B.set i ⟨ps,is,⟨kd,cd,.own (pre Sp.qcm qam.up to k),rt⟩,pi,un,li⟩,w,a,s,r,()))) (by simp only[q9l];rfl) to.length (fun k hk=>?_) ?_
 ·have hg:Edge.ok (to.getD k Edge.z):=qu2 h _ hk;have hl:=hg.2.1;have hs:i<(B.set i ⟨ps,is,⟨kd,cd,.own (pre Sp.qcm qam.up to k),rt⟩,pi,un,li⟩).length:=by simpa using hi
  have e1:(pre Sp.qcm qam.up to k).getD k qam.z=qam.up (to.getD k Edge.z):=qtz _ _ hk _ _;have e2:k<(pre Sp.qcm qam.up to k).length:=by rw[qj5];exact hk
  simp only[qds hs,qtk hi,Sp.qgx,qaf,zja,qds e2,e1,qam.up,Sp.qsp,qak hl,List.set_set,ql3,qj5];simp(maxSteps:=1000000) (disch:=((try dsimp only);omega)) only[↓gsA,gsB]
  have e3:=qty Sp.qcm qam.up hk Edge.z;simp only[Sp.qcm]at e3;simp only[Sp.qcm,e3]
 ·simp(maxSteps:=1000000) (disch:=((try dsimp only);omega)) only[↓gsA,gsB]
  simp only[qt0]
theorem q98(nm:ByteArray)(fn:Fn)(w:List Int)(a:List Arr)(s:List qbd)(r:List Int)(bs:List Block)(h:All 136 Block.ok bs) :
  qap go25_l1 (((),(),(((bs.length:Nat):Int),(0:Int),())),((nm,(),(),(),(),(),()),fn,w,a,s,r,bs.map qab.up,()))=some (((),(),()),((nm,(),(),(),(),(),()),fn,w,a,s,r,bs.map Sp.qct,())):=by
 have hx:=h.len;rw[qcl]at hx;unfold go25_l1;refine qcj (st:=fun k=>(((),(),(((bs.length:Nat):Int),(k:Int),())),((nm,(),(),(),(),(),()),fn,w,a,s,r,pre Sp.qct qab.up bs k,()))) (by simp only[q9l];rfl) bs.length (fun k hk=>?_) ?_
 ·have hg:Block.ok (bs.getD k Block.z):=qu2 h _ hk;obtain⟨h1,h2,⟨_,_,h3,h4⟩,_⟩:=hg;have e1:(pre Sp.qct qab.up bs k).getD k qab.z=qab.up (bs.getD k Block.z):=qtz _ _ hk _ _;have e2:k<(pre Sp.qct qab.up bs k).length:=by rw[qj5];exact hk
  have e3:∀y:qab,k<((pre Sp.qct qab.up bs k).set k y).length:=fun y=>by simpa using e2
  have m1:∀is:List qat,(((is.map qai.up).length:Nat):Int)=((is.length:Nat):Int):=fun is=>by simp
  have m2:∀is:List Edge,(((is.map qam.up).length:Nat):Int)=((is.length:Nat):Int):=fun is=>by simp
  simp only[zja,qds e2,e1,qab.up,Sp.qsp,qaf,qak h1.1,qak h2.1,ql3,qds (e3 _),qtk e2,List.set_set,Sp.qgx,qj5,m1,m2,
   q97 _ _ _ _ _ _ _ _ e2 _ _ h2,qak h3.1,qak h4.1,q96 _ _ _ _ _ _ _ _ e2 _ _ _ _ _ h3]
  simp(maxSteps:=1000000) (disch:=((try dsimp only);omega)) only[↓gsA,gsB]
  have e4:=qty Sp.qct qab.up hk Block.z;simp only[Sp.qct]at e4;simp only[Sp.qct,e4]
 ·simp(maxSteps:=1000000) (disch:=((try dsimp only);omega)) only[↓gsA,gsB]
  simp only[qt0]
theorem ok25(x:Fn)(h:x.ok):go25 x=some ((x.name,(),(),(),(),(),()),x.qaa,x.qag,x.streams,x.qax,x.blocks.map Sp.qct,()):=by
 obtain⟨_,h1,h2,h3,h4,h5⟩:=h;unfold go25;simp only[qak h1.1,qak h2.1,qak h3.1,qak h4.1,qak h5.1,qaf,q98 _ _ _ _ _ _ _ h5]
def c25:Ctr Try.prog:=qbl 25 Try.f25 Try.func25 [c60,c61,c62,c63,c64,c65] ann25 [(0,(.st 6))] [] (.agg [.s,.full 0,.full 1,.full 2,.full 3,.full 4]) [(.lst 3 (.int .i64)),(.lst 53 (.st 4)),(.lst 55 (.st 5)),(.lst 3 (.int .i64)),(.lst 41 (.st 11))]
 (fun x _=>grd (okB (Fn.ok x.1)) (some ((x.1.name,(),(),(),(),(),()),x.1.qaa,x.1.qag,x.1.streams,x.1.qax,x.1.blocks.map Sp.qct,()))) (fun x _ r h=>FO (run25 x.1) (ok25 x.1) h)
end
end Go.Abs
namespace Go.Abs
open Go Go.Proofs
noncomputable section
def ann26:Ann:=(.seq .o (.seq .o (.seq .o (.seq .o (.seq .o (.seq .o (.seq .o (.seq .o (.join sh89 (.seq .o (.block (.loop sh90 [((.exit 0),sh89)] (.seq .o (.join sh90 (.cond .o .o) (.join sh90 (.block (.seq .o (.seq .o (.seq (.x ⟨false,false,false,true,[41],[],[],.no⟩) (.seq .o (.join sh91 (.seq .o (.block (.loop sh92 [((.exit 2),sh91)] (.seq .o (.join sh92 (.cond .o .o) (.join sh92 (.block (.seq .o (.seq (.x ⟨false,false,true,false,[25],[],[],.no⟩) (.x ⟨false,false,false,false,[],[],[0,1,0,0,0,16,0,112,240,496,1016,2047,4095,8191],(.fl 0 (.fl 2 (.rd 3 (.fl 4 (.rd 5 (.fl 6 (.fl 7 (.fl 8 (.rd 9 (.br 1 (.on 10 (.qu [11,12] (.on 13 .nil))) (.br 10 (.qu [1,11,12] (.on 13 .nil)) .no)))))))))))⟩)))) .o)))))) (.join sh91 (.seq .o (.cond .o .o)) (.seq .o (.join sh91 (.seq .o (.block (.loop sh93 [((.exit 4),sh91)] (.seq .o (.join sh93 (.cond .o .o) (.join sh93 (.block (.seq .o (.x ⟨false,false,true,false,[25],[],[],.no⟩))) .o)))))) (.x ⟨false,false,false,true,[],[],[],.no⟩)))))))))) .o)))))) (.join sh94 (.seq .o (.block (.loop sh95 [((.exit 6),sh94)] (.seq .o (.join sh95 (.cond .o .o) (.join sh95 (.block (.seq .o (.seq (.x ⟨false,false,false,false,[37],[],[],.no⟩) (.block (.loop sh96 [((.exit 8),sh95)] (.seq .o (.join sh96 (.cond .o .o) (.join sh96 (.block (.seq .o (.x ⟨false,false,false,false,[37],[],[],.no⟩))) .o)))))))) .o)))))) (.seq (.x ⟨false,false,false,false,[],[(9,11)],[0,0,1,5,15,31],(.fl 0 (.fl 2 (.br 1 (.on 3 (.qu [4] (.on 5 .nil))) (.br 3 (.qu [1,4] (.on 5 .nil)) .no))))⟩) (.seq .o .o))))))))))))
def go26_l5:ty81->Option (ty81⊕((Unit×(Unit×(Unit×ty78)))×ty70)):=(fun r3=>(bif(decide (r3.1.2.2.2.2.2.2.2.2.2.1<r3.1.2.2.2.2.2.2.2.2.1))then(grd (okB ((0<=r3.1.2.2.2.2.2.1)/\(r3.1.2.2.2.2.2.1<(r3.2.2.2.2.2.1.length:Int)))) (grd (Nat.blt r3.1.2.2.2.2.2.1.toNat r3.2.2.2.2.2.1.length) (qaj (@Sp.qjt qam Edge (r3.2.2.2.2.2.1.getD r3.1.2.2.2.2.2.1.toNat cl83).term.to) (fun z2=>(grd (okB ((0<=r3.1.2.2.2.2.2.1)/\(r3.1.2.2.2.2.2.1<(r3.2.2.2.2.2.1.length:Int)))) (grd (Nat.blt r3.1.2.2.2.2.2.1.toNat r3.2.2.2.2.2.1.length) (qaj (@Sp.qjt qam Edge (r3.2.2.2.2.2.1.getD r3.1.2.2.2.2.2.1.toNat cl83).term.to) (fun z3=>(qaj (@Sp.qjt qam Edge (r3.2.2.2.2.2.1.getD r3.1.2.2.2.2.2.1.toNat cl83).term.to) (fun l1=>(grd (okB ((0<=r3.1.2.2.2.2.2.2.2.2.2.1)/\(r3.1.2.2.2.2.2.2.2.2.2.1<(l1.length:Int)))) (qaj (@Sp.qjt qam Edge (r3.2.2.2.2.2.1.getD r3.1.2.2.2.2.2.1.toNat cl83).term.to) (fun l2=>(qaj (@Sp.qjt qam Edge (r3.2.2.2.2.2.1.getD r3.1.2.2.2.2.2.1.toNat cl83).term.to) (fun l3=>(grd (Nat.blt r3.1.2.2.2.2.2.2.2.2.2.1.toNat l3.length) (qaj (@Sp.qjt qam Edge (r3.2.2.2.2.2.1.getD r3.1.2.2.2.2.2.1.toNat cl83).term.to) (fun l4=>(grd (okB ((0<=r3.1.2.2.2.2.2.2.2.2.2.1)/\(r3.1.2.2.2.2.2.2.2.2.2.1<(l4.length:Int)))) (qaj (@Sp.qjt qam Edge (r3.2.2.2.2.2.1.getD r3.1.2.2.2.2.2.1.toNat cl83).term.to) (fun l5=>(qaj (@Sp.qjt qam Edge (r3.2.2.2.2.2.1.getD r3.1.2.2.2.2.2.1.toNat cl83).term.to) (fun l6=>(grd (Nat.blt r3.1.2.2.2.2.2.2.2.2.2.1.toNat l6.length) (shO (r3.2.2.2.2.2.1.set r3.1.2.2.2.2.2.1.toNat (qac.mk (r3.2.2.2.2.2.1.getD r3.1.2.2.2.2.2.1.toNat cl83).params (r3.2.2.2.2.2.1.getD r3.1.2.2.2.2.2.1.toNat cl83).insts (qau.mk (r3.2.2.2.2.2.1.getD r3.1.2.2.2.2.2.1.toNat cl83).term.kind (r3.2.2.2.2.2.1.getD r3.1.2.2.2.2.2.1.toNat cl83).term.cond (@Ox.own qam Edge (l6.set r3.1.2.2.2.2.2.2.2.2.2.1.toNat (qam.mk (@Option.getD Int (@Prod.fst (qb1->(Option Int)) ((Unit×Unit)×((List qac)×((List Int)×((List Arr)×((List qbd)×((List Int)×((List qac)×((List Int)×Unit)))))))) r3.2.2.2 (qb1.i (l3.getD r3.1.2.2.2.2.2.2.2.2.2.1.toNat qam.z).block)) 0) (l6.getD r3.1.2.2.2.2.2.2.2.2.2.1.toNat qam.z).args))) (r3.2.2.2.2.2.1.getD r3.1.2.2.2.2.2.1.toNat cl83).term.qax) (r3.2.2.2.2.2.1.getD r3.1.2.2.2.2.2.1.toNat cl83).qar (r3.2.2.2.2.2.1.getD r3.1.2.2.2.2.2.1.toNat cl83).qa9 (r3.2.2.2.2.2.1.getD r3.1.2.2.2.2.2.1.toNat cl83).line)) (fun l7=>(grd (okB (((-9223372036854775808)<=(r3.1.2.2.2.2.2.2.2.2.2.1+1))/\((r3.1.2.2.2.2.2.2.2.2.2.1+1)<=9223372036854775807))) (some (Sum.inl (((),((),((),((),((),(r3.1.2.2.2.2.2.1,(r3.1.2.2.2.2.2.2.1,(r3.1.2.2.2.2.2.2.2.1,(r3.1.2.2.2.2.2.2.2.2.1,((r3.1.2.2.2.2.2.2.2.2.2.1+1),())))))))))),((r3.2.1.1,((),((),((),((),((),())))))),(r3.2.2.1,(r3.2.2.2.1,(((),()),(l7,(r3.2.2.2.2.2.2.1,(r3.2.2.2.2.2.2.2.1,(r3.2.2.2.2.2.2.2.2.1,(r3.2.2.2.2.2.2.2.2.2.1,(r3.2.2.2.2.2.2.2.2.2.2.1,(r3.2.2.2.2.2.2.2.2.2.2.2.1,())))))))))))))))))))))))))))))))))))))))))else(some (Sum.inr (((),((),((),((),((),(r3.1.2.2.2.2.2.2.1,(r3.1.2.2.2.2.2.2.2.1,()))))))),((r3.2.1.1,((),((),((),((),((),())))))),(r3.2.2.1,(r3.2.2.2.1,(((),()),(r3.2.2.2.2.2.1,(r3.2.2.2.2.2.2.1,(r3.2.2.2.2.2.2.2.1,(r3.2.2.2.2.2.2.2.2.1,(r3.2.2.2.2.2.2.2.2.2.1,(r3.2.2.2.2.2.2.2.2.2.2.1,(r3.2.2.2.2.2.2.2.2.2.2.2.1,()))))))))))))))))
def go26_l4:((Unit×(Unit×(Unit×ty78)))×ty70)->Option (((Unit×(Unit×(Unit×ty78)))×ty70)⊕((Unit×(Unit×(Unit×(Unit×Unit))))×((ByteArray×ty77)×(Fn×((Unit×Unit)×((List qac)×((List Int)×((List Arr)×((List qbd)×((List Int)×((List qac)×((List Int)×Unit)))))))))))):=(fun r2=>(bif(decide (r2.1.2.2.2.2.2.2.1<r2.1.2.2.2.2.2.1))then(grd (okB ((0<=r2.1.2.2.2.2.2.2.1)/\(r2.1.2.2.2.2.2.2.1<(r2.2.2.2.2.2.1.length:Int)))) (grd (Nat.blt r2.1.2.2.2.2.2.2.1.toNat r2.2.2.2.2.2.1.length) (qaj (@Sp.qjt qam Edge (r2.2.2.2.2.2.1.getD r2.1.2.2.2.2.2.2.1.toNat cl83).term.to) (fun z1=>(qaj (@Sp.qjt qam Edge (r2.2.2.2.2.2.1.getD r2.1.2.2.2.2.2.2.1.toNat cl83).term.to) (fun l0=>(qaj (qap (go26_l5) (((),((),((),((),((),(r2.1.2.2.2.2.2.2.1,(r2.1.2.2.2.2.2.1,(r2.1.2.2.2.2.2.2.1,((l0.length:Int),(0,())))))))))),((r2.2.1.1,((),((),((),((),((),())))))),(r2.2.2.1,(r2.2.2.2.1,(((),()),(r2.2.2.2.2.2.1,(r2.2.2.2.2.2.2.1,(r2.2.2.2.2.2.2.2.1,(r2.2.2.2.2.2.2.2.2.1,(r2.2.2.2.2.2.2.2.2.2.1,(r2.2.2.2.2.2.2.2.2.2.2.1,(r2.2.2.2.2.2.2.2.2.2.2.2.1,()))))))))))))) (fun z2=>(grd (okB (((-9223372036854775808)<=(z2.1.2.2.2.2.2.2.1+1))/\((z2.1.2.2.2.2.2.2.1+1)<=9223372036854775807))) (some (Sum.inl (((),((),((),((),((),(z2.1.2.2.2.2.2.1,((z2.1.2.2.2.2.2.2.1+1),()))))))),((z2.2.1.1,((),((),((),((),((),())))))),(z2.2.2.1,(z2.2.2.2.1,(((),()),(z2.2.2.2.2.2.1,(z2.2.2.2.2.2.2.1,(z2.2.2.2.2.2.2.2.1,(z2.2.2.2.2.2.2.2.2.1,(z2.2.2.2.2.2.2.2.2.2.1,(z2.2.2.2.2.2.2.2.2.2.2.1,(z2.2.2.2.2.2.2.2.2.2.2.2.1,())))))))))))))))))))))))else(some (Sum.inr (((),((),((),((),())))),((r2.2.1.1,((),((),((),((),((),())))))),(r2.2.2.1,(((),()),(r2.2.2.2.2.2.1,(r2.2.2.2.2.2.2.1,(r2.2.2.2.2.2.2.2.1,(r2.2.2.2.2.2.2.2.2.1,(r2.2.2.2.2.2.2.2.2.2.1,(r2.2.2.2.2.2.2.2.2.2.2.1,(r2.2.2.2.2.2.2.2.2.2.2.2.1,())))))))))))))))
def go26_l3:ty72->Option (ty72⊕ty75):=(fun r5=>(bif(decide (r5.1.2.2.2.2.2.2.2.2.2.2.2.2.1<r5.1.2.2.2.2.2.2.2.2.2.2.2.1))then(grd (okB ((0<=r5.1.2.2.2.2.2.2.2.2.2.2.2.2.1)/\(r5.1.2.2.2.2.2.2.2.2.2.2.2.2.1<(r5.2.2.2.2.2.2.2.2.2.2.2.2.2.2.2.2.2.2.1.length:Int)))) (grd (Nat.blt r5.1.2.2.2.2.2.2.2.2.2.2.2.2.1.toNat r5.2.2.2.2.2.2.2.2.2.2.2.2.2.2.2.2.2.2.1.length) (qaj (@Sp.qgx Int Int (r5.2.2.2.2.2.2.2.2.2.2.2.2.2.2.2.2.2.2.1.getD r5.1.2.2.2.2.2.2.2.2.2.2.2.2.1.toNat qam.z).args) (fun z6=>(grd (Nat.blt r5.1.2.2.2.2.2.2.2.2.2.2.2.2.1.toNat r5.2.2.2.2.2.2.2.2.2.2.2.2.2.2.2.2.2.2.1.length) (qaj (@Sp.qgx Int Int (r5.2.2.2.2.2.2.2.2.2.2.2.2.2.2.2.2.2.2.1.getD r5.1.2.2.2.2.2.2.2.2.2.2.2.2.1.toNat qam.z).args) (fun l4=>(qaj (q7s (l4,((((),((),((),()))),()),((r5.2.1.1,((),((),((),((),((),())))))),(r5.2.2.2.2.2.2.2.2.2.1,(r5.2.2.2.2.2.2.2.2.2.2.1,(r5.2.2.2.2.2.2.2.2.2.2.2.1,(r5.2.2.2.2.2.2.2.2.2.2.2.2.1,(r5.2.2.2.2.2.2.2.2.2.2.2.2.2.1,(((),()),(r5.2.2.2.2.2.2.2.2.2.2.2.2.2.2.2.2.2.2.2.2.1,(((),()),(r5.2.2.2.2.2.2.2.2.2.2.2.2.2.2.1,()))))))))))))) (fun r6=>(grd ((decide (r6.2.1.length=l4.length))&&((decide ((1:Nat)=1))&&((decide ((1:Nat)=1))&&((decide (r6.2.2.2.2.1.length=r5.2.2.2.2.2.2.2.2.2.1.length))&&((decide (r6.2.2.2.2.2.1.length=r5.2.2.2.2.2.2.2.2.2.2.1.length))&&((decide (r6.2.2.2.2.2.2.1.length=r5.2.2.2.2.2.2.2.2.2.2.2.1.length))&&((decide (r6.2.2.2.2.2.2.2.1.length=r5.2.2.2.2.2.2.2.2.2.2.2.2.1.length))&&((decide (r6.2.2.2.2.2.2.2.2.1.length=r5.2.2.2.2.2.2.2.2.2.2.2.2.2.1.length))&&((decide ((1:Nat)=1))&&((decide ((1:Nat)=1))&&true)))))))))) (grd (Nat.blt r5.1.2.2.2.2.2.2.2.2.2.2.2.2.1.toNat r5.2.2.2.2.2.2.2.2.2.2.2.2.2.2.2.2.2.2.1.length) (shO (r5.2.2.2.2.2.2.2.2.2.2.2.2.2.2.2.2.2.2.1.set r5.1.2.2.2.2.2.2.2.2.2.2.2.2.1.toNat (qam.mk (r5.2.2.2.2.2.2.2.2.2.2.2.2.2.2.2.2.2.2.1.getD r5.1.2.2.2.2.2.2.2.2.2.2.2.2.1.toNat qam.z).block (@Ow.own Int Int r6.2.1))) (fun l5=>(grd (okB (((-9223372036854775808)<=(r5.1.2.2.2.2.2.2.2.2.2.2.2.2.1+1))/\((r5.1.2.2.2.2.2.2.2.2.2.2.2.2.1+1)<=9223372036854775807))) (some (Sum.inl (((),((),((),((),((),(((),()),((),((),((),(r5.1.2.2.2.2.2.2.2.2.2.1,(r5.1.2.2.2.2.2.2.2.2.2.2.1,(r5.1.2.2.2.2.2.2.2.2.2.2.2.1,((r5.1.2.2.2.2.2.2.2.2.2.2.2.2.1+1),()))))))))))))),((r6.2.2.2.1.1,((),((),((),((),((),())))))),(r5.2.2.1,(r5.2.2.2.1,(((),()),((((),((),((),()))),()),(r5.2.2.2.2.2.2.1,(((),((),(r5.2.2.2.2.2.2.2.1.2.2.1,(r5.2.2.2.2.2.2.2.1.2.2.2.1,((),((),(r5.2.2.2.2.2.2.2.1.2.2.2.2.2.2.1,(r5.2.2.2.2.2.2.2.1.2.2.2.2.2.2.2.1,(r5.2.2.2.2.2.2.2.1.2.2.2.2.2.2.2.2.1,()))))))))),(r5.2.2.2.2.2.2.2.2.1,(r6.2.2.2.2.1,(r6.2.2.2.2.2.1,(r6.2.2.2.2.2.2.1,(r6.2.2.2.2.2.2.2.1,(r6.2.2.2.2.2.2.2.2.1,(r6.2.2.2.2.2.2.2.2.2.2.2.2.2.1,(((),()),(r5.2.2.2.2.2.2.2.2.2.2.2.2.2.2.2.2.1,(r5.2.2.2.2.2.2.2.2.2.2.2.2.2.2.2.2.2.1,(l5,(r5.2.2.2.2.2.2.2.2.2.2.2.2.2.2.2.2.2.2.2.1,(r6.2.2.2.2.2.2.2.2.2.2.1,())))))))))))))))))))))))))))))))))))))else(some (Sum.inr (((),((),((),((),((),(((),()),((),((),((),(r5.1.2.2.2.2.2.2.2.2.2.1,(r5.1.2.2.2.2.2.2.2.2.2.2.1,()))))))))))),((r5.2.1.1,((),((),((),((),((),())))))),(r5.2.2.1,(r5.2.2.2.1,(((),()),((((),((),((),()))),()),(r5.2.2.2.2.2.2.1,(((),((),(r5.2.2.2.2.2.2.2.1.2.2.1,(r5.2.2.2.2.2.2.2.1.2.2.2.1,((),((),(r5.2.2.2.2.2.2.2.1.2.2.2.2.2.2.1,(r5.2.2.2.2.2.2.2.1.2.2.2.2.2.2.2.1,(r5.2.2.2.2.2.2.2.1.2.2.2.2.2.2.2.2.1,()))))))))),(r5.2.2.2.2.2.2.2.2.1,(r5.2.2.2.2.2.2.2.2.2.1,(r5.2.2.2.2.2.2.2.2.2.2.1,(r5.2.2.2.2.2.2.2.2.2.2.2.1,(r5.2.2.2.2.2.2.2.2.2.2.2.2.1,(r5.2.2.2.2.2.2.2.2.2.2.2.2.2.1,(r5.2.2.2.2.2.2.2.2.2.2.2.2.2.2.1,(((),()),(r5.2.2.2.2.2.2.2.2.2.2.2.2.2.2.2.2.1,(r5.2.2.2.2.2.2.2.2.2.2.2.2.2.2.2.2.2.1,(r5.2.2.2.2.2.2.2.2.2.2.2.2.2.2.2.2.2.2.1,(r5.2.2.2.2.2.2.2.2.2.2.2.2.2.2.2.2.2.2.2.1,(r5.2.2.2.2.2.2.2.2.2.2.2.2.2.2.2.2.2.2.2.2.1,())))))))))))))))))))))))))
def go26_j2:ty75->Option (ty71⊕(ty77×ty70)):=(fun z5=>(qaj (q7s (z5.2.2.2.2.2.2.2.2.2.2.2.2.2.2.2.2.2.2.2.1,((((),((),((),()))),()),((z5.2.1.1,((),((),((),((),((),())))))),(z5.2.2.2.2.2.2.2.2.2.1,(z5.2.2.2.2.2.2.2.2.2.2.1,(z5.2.2.2.2.2.2.2.2.2.2.2.1,(z5.2.2.2.2.2.2.2.2.2.2.2.2.1,(z5.2.2.2.2.2.2.2.2.2.2.2.2.2.1,(((),()),(z5.2.2.2.2.2.2.2.2.2.2.2.2.2.2.2.2.2.2.2.2.1,(((),()),(z5.2.2.2.2.2.2.2.2.2.2.2.2.2.2.1,()))))))))))))) (fun r4=>(grd ((decide (r4.2.1.length=z5.2.2.2.2.2.2.2.2.2.2.2.2.2.2.2.2.2.2.2.1.length))&&((decide ((1:Nat)=1))&&((decide ((1:Nat)=1))&&((decide (r4.2.2.2.2.1.length=z5.2.2.2.2.2.2.2.2.2.1.length))&&((decide (r4.2.2.2.2.2.1.length=z5.2.2.2.2.2.2.2.2.2.2.1.length))&&((decide (r4.2.2.2.2.2.2.1.length=z5.2.2.2.2.2.2.2.2.2.2.2.1.length))&&((decide (r4.2.2.2.2.2.2.2.1.length=z5.2.2.2.2.2.2.2.2.2.2.2.2.1.length))&&((decide (r4.2.2.2.2.2.2.2.2.1.length=z5.2.2.2.2.2.2.2.2.2.2.2.2.2.1.length))&&((decide ((1:Nat)=1))&&((decide ((1:Nat)=1))&&true)))))))))) (qaj (qap (go26_l3) (((),((),((),((),((),(((),()),((),((),((),(z5.1.2.2.2.2.2.2.2.2.2.1,(z5.1.2.2.2.2.2.2.2.2.2.2.1,((z5.2.2.2.2.2.2.2.2.2.2.2.2.2.2.2.2.2.2.1.length:Int),(0,()))))))))))))),((r4.2.2.2.1.1,((),((),((),((),((),())))))),(z5.2.2.1,(z5.2.2.2.1,(((),()),((((),((),((),()))),()),(z5.2.2.2.2.2.2.1,(((),((),(z5.2.2.2.2.2.2.2.1.2.2.1,(z5.2.2.2.2.2.2.2.1.2.2.2.1,((),((),(z5.2.2.2.2.2.2.2.1.2.2.2.2.2.2.1,(z5.2.2.2.2.2.2.2.1.2.2.2.2.2.2.2.1,(z5.2.2.2.2.2.2.2.1.2.2.2.2.2.2.2.2.1,()))))))))),(z5.2.2.2.2.2.2.2.2.1,(r4.2.2.2.2.1,(r4.2.2.2.2.2.1,(r4.2.2.2.2.2.2.1,(r4.2.2.2.2.2.2.2.1,(r4.2.2.2.2.2.2.2.2.1,(r4.2.2.2.2.2.2.2.2.2.2.2.2.2.1,(((),()),(z5.2.2.2.2.2.2.2.2.2.2.2.2.2.2.2.2.1,(z5.2.2.2.2.2.2.2.2.2.2.2.2.2.2.2.2.2.1,(z5.2.2.2.2.2.2.2.2.2.2.2.2.2.2.2.2.2.2.1,(r4.2.1,(r4.2.2.2.2.2.2.2.2.2.2.1,())))))))))))))))))))))) (fun z6=>(grd (okB ((((z6.2.2.2.2.2.2.1.length+1)*136)<=140737488355328)/\((z6.2.2.2.2.2.2.1.length+1)<=281474976710656))) (grd (okB (((-9223372036854775808)<=(z6.1.2.2.2.2.2.2.2.2.2.2.1+1))/\((z6.1.2.2.2.2.2.2.2.2.2.2.1+1)<=9223372036854775807))) (some (Sum.inl (((),((),((),((),((),(((),()),((),((),(z6.1.2.2.2.2.2.2.2.2.2.1,((z6.1.2.2.2.2.2.2.2.2.2.2.1+1),())))))))))),((z6.2.1.1,((),((),((),((),((),())))))),(z6.2.2.1,(z6.2.2.2.1,(((),()),((((),((),((),()))),()),((z6.2.2.2.2.2.2.1++((qac.mk (@Ox.own Int Int z6.2.2.2.2.2.2.2.2.2.2.2.2.2.2.2.2.1) (@Ox.own qai qat z6.2.2.2.2.2.2.2.2.2.2.2.2.2.2.2.2.2.1) (qau.mk z6.2.2.2.2.2.2.2.1.2.2.1 z6.2.2.2.2.2.2.2.1.2.2.2.1 (@Ox.own qam Edge z6.2.2.2.2.2.2.2.2.2.2.2.2.2.2.2.2.2.2.1) (@Ox.own Int Int z6.2.2.2.2.2.2.2.2.2.2.2.2.2.2.2.2.2.2.2.1)) z6.2.2.2.2.2.2.2.1.2.2.2.2.2.2.1 z6.2.2.2.2.2.2.2.1.2.2.2.2.2.2.2.1 z6.2.2.2.2.2.2.2.1.2.2.2.2.2.2.2.2.1)::([]:List qac))),(z6.2.2.2.2.2.2.2.2.1,(z6.2.2.2.2.2.2.2.2.2.1,(z6.2.2.2.2.2.2.2.2.2.2.1,(z6.2.2.2.2.2.2.2.2.2.2.2.1,(z6.2.2.2.2.2.2.2.2.2.2.2.2.1,(z6.2.2.2.2.2.2.2.2.2.2.2.2.2.1,(z6.2.2.2.2.2.2.2.2.2.2.2.2.2.2.1,(((),()),(z6.2.2.2.2.2.2.2.2.2.2.2.2.2.2.2.2.2.2.2.2.1,()))))))))))))))))))))))))))
def go26_j1:ty72->Option (ty72⊕ty75):=(fun z4=>(grd (okB (((-9223372036854775808)<=(z4.1.2.2.2.2.2.2.2.2.2.2.2.2.1+1))/\((z4.1.2.2.2.2.2.2.2.2.2.2.2.2.1+1)<=9223372036854775807))) (some (Sum.inl (((),((),((),((),((),(((),()),((),((),((),(z4.1.2.2.2.2.2.2.2.2.2.1,(z4.1.2.2.2.2.2.2.2.2.2.2.1,(z4.1.2.2.2.2.2.2.2.2.2.2.2.1,((z4.1.2.2.2.2.2.2.2.2.2.2.2.2.1+1),()))))))))))))),((z4.2.1.1,((),((),((),((),((),())))))),(z4.2.2.1,(z4.2.2.2.1,(((),()),((((),((),((),()))),()),(z4.2.2.2.2.2.2.1,(((),((),(z4.2.2.2.2.2.2.2.1.2.2.1,(z4.2.2.2.2.2.2.2.1.2.2.2.1,((),((),(z4.2.2.2.2.2.2.2.1.2.2.2.2.2.2.1,(z4.2.2.2.2.2.2.2.1.2.2.2.2.2.2.2.1,(z4.2.2.2.2.2.2.2.1.2.2.2.2.2.2.2.2.1,()))))))))),(z4.2.2.2.2.2.2.2.2.1,(z4.2.2.2.2.2.2.2.2.2.1,(z4.2.2.2.2.2.2.2.2.2.2.1,(z4.2.2.2.2.2.2.2.2.2.2.2.1,(z4.2.2.2.2.2.2.2.2.2.2.2.2.1,(z4.2.2.2.2.2.2.2.2.2.2.2.2.2.1,(z4.2.2.2.2.2.2.2.2.2.2.2.2.2.2.1,(((),()),(z4.2.2.2.2.2.2.2.2.2.2.2.2.2.2.2.2.1,(z4.2.2.2.2.2.2.2.2.2.2.2.2.2.2.2.2.2.1,(z4.2.2.2.2.2.2.2.2.2.2.2.2.2.2.2.2.2.2.1,(z4.2.2.2.2.2.2.2.2.2.2.2.2.2.2.2.2.2.2.2.1,(z4.2.2.2.2.2.2.2.2.2.2.2.2.2.2.2.2.2.2.2.2.1,())))))))))))))))))))))))))
def go26_l2:ty72->Option (ty72⊕ty75):=(fun r4=>(bif(decide (r4.1.2.2.2.2.2.2.2.2.2.2.2.2.1<r4.1.2.2.2.2.2.2.2.2.2.2.2.1))then(jpO (go26_j1) (fun j0=>(grd (okB ((0<=r4.1.2.2.2.2.2.2.2.2.2.2.2.2.1)/\(r4.1.2.2.2.2.2.2.2.2.2.2.2.2.1<(r4.2.2.2.2.2.2.2.2.2.2.2.2.2.2.2.2.2.1.length:Int)))) (grd (Nat.blt r4.1.2.2.2.2.2.2.2.2.2.2.2.2.1.toNat r4.2.2.2.2.2.2.2.2.2.2.2.2.2.2.2.2.2.1.length) (qaj (@Sp.qgx Int Int (r4.2.2.2.2.2.2.2.2.2.2.2.2.2.2.2.2.2.1.getD r4.1.2.2.2.2.2.2.2.2.2.2.2.2.1.toNat qai.z).args) (fun z4=>(grd (Nat.blt r4.1.2.2.2.2.2.2.2.2.2.2.2.2.1.toNat r4.2.2.2.2.2.2.2.2.2.2.2.2.2.2.2.2.2.1.length) (qaj (@Sp.qgx Int Int (r4.2.2.2.2.2.2.2.2.2.2.2.2.2.2.2.2.2.1.getD r4.1.2.2.2.2.2.2.2.2.2.2.2.2.1.toNat qai.z).args) (fun l4=>(qaj (q7s (l4,((((),((),((),()))),()),((r4.2.1.1,((),((),((),((),((),())))))),(r4.2.2.2.2.2.2.2.2.2.1,(r4.2.2.2.2.2.2.2.2.2.2.1,(r4.2.2.2.2.2.2.2.2.2.2.2.1,(r4.2.2.2.2.2.2.2.2.2.2.2.2.1,(r4.2.2.2.2.2.2.2.2.2.2.2.2.2.1,(((),()),(r4.2.2.2.2.2.2.2.2.2.2.2.2.2.2.2.2.2.2.2.2.1,(((),()),(r4.2.2.2.2.2.2.2.2.2.2.2.2.2.2.1,()))))))))))))) (fun r5=>(grd ((decide (r5.2.1.length=l4.length))&&((decide ((1:Nat)=1))&&((decide ((1:Nat)=1))&&((decide (r5.2.2.2.2.1.length=r4.2.2.2.2.2.2.2.2.2.1.length))&&((decide (r5.2.2.2.2.2.1.length=r4.2.2.2.2.2.2.2.2.2.2.1.length))&&((decide (r5.2.2.2.2.2.2.1.length=r4.2.2.2.2.2.2.2.2.2.2.2.1.length))&&((decide (r5.2.2.2.2.2.2.2.1.length=r4.2.2.2.2.2.2.2.2.2.2.2.2.1.length))&&((decide (r5.2.2.2.2.2.2.2.2.1.length=r4.2.2.2.2.2.2.2.2.2.2.2.2.2.1.length))&&((decide ((1:Nat)=1))&&((decide ((1:Nat)=1))&&true)))))))))) (grd (Nat.blt r4.1.2.2.2.2.2.2.2.2.2.2.2.2.1.toNat r4.2.2.2.2.2.2.2.2.2.2.2.2.2.2.2.2.2.1.length) (shO (r4.2.2.2.2.2.2.2.2.2.2.2.2.2.2.2.2.2.1.set r4.1.2.2.2.2.2.2.2.2.2.2.2.2.1.toNat (qai.mk (r4.2.2.2.2.2.2.2.2.2.2.2.2.2.2.2.2.2.1.getD r4.1.2.2.2.2.2.2.2.2.2.2.2.2.1.toNat qai.z).op (r4.2.2.2.2.2.2.2.2.2.2.2.2.2.2.2.2.2.1.getD r4.1.2.2.2.2.2.2.2.2.2.2.2.2.1.toNat qai.z).dest (@Ow.own Int Int r5.2.1) (r4.2.2.2.2.2.2.2.2.2.2.2.2.2.2.2.2.2.1.getD r4.1.2.2.2.2.2.2.2.2.2.2.2.2.1.toNat qai.z).num (r4.2.2.2.2.2.2.2.2.2.2.2.2.2.2.2.2.2.1.getD r4.1.2.2.2.2.2.2.2.2.2.2.2.2.1.toNat qai.z).mem)) (fun l5=>(grd (okB ((0<=r4.1.2.2.2.2.2.2.2.2.2.2.2.2.1)/\(r4.1.2.2.2.2.2.2.2.2.2.2.2.2.1<(l5.length:Int)))) (grd (Nat.blt r4.1.2.2.2.2.2.2.2.2.2.2.2.2.1.toNat l5.length) (brO (qaj (q7t (l5.getD r4.1.2.2.2.2.2.2.2.2.2.2.2.2.1.toNat qai.z).dest ((r5.2.2.2.1.1,((),((),((),((),((),())))))),(r5.2.2.2.2.1,(r5.2.2.2.2.2.1,(r5.2.2.2.2.2.2.1,(r5.2.2.2.2.2.2.2.1,(r5.2.2.2.2.2.2.2.2.1,(((),()),(r5.2.2.2.2.2.2.2.2.2.2.1,(((),()),(r5.2.2.2.2.2.2.2.2.2.2.2.2.2.1,()))))))))))) (fun r6=>(grd ((decide ((1:Nat)=1))&&((decide (r6.2.2.1.length=r5.2.2.2.2.1.length))&&((decide (r6.2.2.2.1.length=r5.2.2.2.2.2.1.length))&&((decide (r6.2.2.2.2.1.length=r5.2.2.2.2.2.2.1.length))&&((decide (r6.2.2.2.2.2.1.length=r5.2.2.2.2.2.2.2.1.length))&&((decide (r6.2.2.2.2.2.2.1.length=r5.2.2.2.2.2.2.2.2.1.length))&&((decide ((1:Nat)=1))&&((decide ((1:Nat)=1))&&true)))))))) (grd (okB ((0<=r4.1.2.2.2.2.2.2.2.2.2.2.2.2.1)/\(r4.1.2.2.2.2.2.2.2.2.2.2.2.2.1<(l5.length:Int)))) (grd (Nat.blt r4.1.2.2.2.2.2.2.2.2.2.2.2.2.1.toNat l5.length) (shO (l5.set r4.1.2.2.2.2.2.2.2.2.2.2.2.2.1.toNat (qai.mk (l5.getD r4.1.2.2.2.2.2.2.2.2.2.2.2.2.1.toNat qai.z).op r6.1 (l5.getD r4.1.2.2.2.2.2.2.2.2.2.2.2.2.1.toNat qai.z).args (l5.getD r4.1.2.2.2.2.2.2.2.2.2.2.2.2.1.toNat qai.z).num (l5.getD r4.1.2.2.2.2.2.2.2.2.2.2.2.2.1.toNat qai.z).mem)) (fun l6=>(j0 (((),((),((),((),((),(((),()),((),((),((),(r4.1.2.2.2.2.2.2.2.2.2.1,(r4.1.2.2.2.2.2.2.2.2.2.2.1,(r4.1.2.2.2.2.2.2.2.2.2.2.2.1,(r4.1.2.2.2.2.2.2.2.2.2.2.2.2.1,()))))))))))))),((r6.2.1.1,((),((),((),((),((),())))))),(r4.2.2.1,(r4.2.2.2.1,(((),()),((((),((),((),()))),()),(r4.2.2.2.2.2.2.1,(((),((),(r4.2.2.2.2.2.2.2.1.2.2.1,(r4.2.2.2.2.2.2.2.1.2.2.2.1,((),((),(r4.2.2.2.2.2.2.2.1.2.2.2.2.2.2.1,(r4.2.2.2.2.2.2.2.1.2.2.2.2.2.2.2.1,(r4.2.2.2.2.2.2.2.1.2.2.2.2.2.2.2.2.1,()))))))))),(r4.2.2.2.2.2.2.2.2.1,(r6.2.2.1,(r6.2.2.2.1,(r6.2.2.2.2.1,(r6.2.2.2.2.2.1,(r6.2.2.2.2.2.2.1,(r6.2.2.2.2.2.2.2.2.2.2.2.1,(((),()),(r4.2.2.2.2.2.2.2.2.2.2.2.2.2.2.2.2.1,(l6,(r4.2.2.2.2.2.2.2.2.2.2.2.2.2.2.2.2.2.2.1,(r4.2.2.2.2.2.2.2.2.2.2.2.2.2.2.2.2.2.2.2.1,(r6.2.2.2.2.2.2.2.2.1,()))))))))))))))))))))))))))))) (qaj (q7t (l5.getD r4.1.2.2.2.2.2.2.2.2.2.2.2.2.1.toNat qai.z).dest ((r5.2.2.2.1.1,((),((),((),((),((),())))))),(r5.2.2.2.2.1,(r5.2.2.2.2.2.1,(r5.2.2.2.2.2.2.1,(r5.2.2.2.2.2.2.2.1,(r5.2.2.2.2.2.2.2.2.1,(((),()),(r5.2.2.2.2.2.2.2.2.2.2.1,(((),()),(r5.2.2.2.2.2.2.2.2.2.2.2.2.2.1,()))))))))))) (fun r6=>(grd ((decide ((1:Nat)=1))&&((decide (r6.2.2.1.length=r5.2.2.2.2.1.length))&&((decide (r6.2.2.2.1.length=r5.2.2.2.2.2.1.length))&&((decide (r6.2.2.2.2.1.length=r5.2.2.2.2.2.2.1.length))&&((decide (r6.2.2.2.2.2.1.length=r5.2.2.2.2.2.2.2.1.length))&&((decide (r6.2.2.2.2.2.2.1.length=r5.2.2.2.2.2.2.2.2.1.length))&&((decide ((1:Nat)=1))&&((decide ((1:Nat)=1))&&true)))))))) (grd (okB ((0<=r4.1.2.2.2.2.2.2.2.2.2.2.2.2.1)/\(r4.1.2.2.2.2.2.2.2.2.2.2.2.2.1<(l5.length:Int)))) (grd (Nat.blt r4.1.2.2.2.2.2.2.2.2.2.2.2.2.1.toNat l5.length) (shO (l5.set r4.1.2.2.2.2.2.2.2.2.2.2.2.2.1.toNat (qai.mk (l5.getD r4.1.2.2.2.2.2.2.2.2.2.2.2.2.1.toNat qai.z).op r6.1 (l5.getD r4.1.2.2.2.2.2.2.2.2.2.2.2.2.1.toNat qai.z).args (l5.getD r4.1.2.2.2.2.2.2.2.2.2.2.2.2.1.toNat qai.z).num (l5.getD r4.1.2.2.2.2.2.2.2.2.2.2.2.2.1.toNat qai.z).mem)) (fun l6=>(j0 (((),((),((),((),((),(((),()),((),((),((),(r4.1.2.2.2.2.2.2.2.2.2.1,(r4.1.2.2.2.2.2.2.2.2.2.2.1,(r4.1.2.2.2.2.2.2.2.2.2.2.2.1,(r4.1.2.2.2.2.2.2.2.2.2.2.2.2.1,()))))))))))))),((r6.2.1.1,((),((),((),((),((),())))))),(r4.2.2.1,(r4.2.2.2.1,(((),()),((((),((),((),()))),()),(r4.2.2.2.2.2.2.1,(((),((),(r4.2.2.2.2.2.2.2.1.2.2.1,(r4.2.2.2.2.2.2.2.1.2.2.2.1,((),((),(r4.2.2.2.2.2.2.2.1.2.2.2.2.2.2.1,(r4.2.2.2.2.2.2.2.1.2.2.2.2.2.2.2.1,(r4.2.2.2.2.2.2.2.1.2.2.2.2.2.2.2.2.1,()))))))))),(r4.2.2.2.2.2.2.2.2.1,(r6.2.2.1,(r6.2.2.2.1,(r6.2.2.2.2.1,(r6.2.2.2.2.2.1,(r6.2.2.2.2.2.2.1,(r6.2.2.2.2.2.2.2.2.2.2.2.1,(((),()),(r4.2.2.2.2.2.2.2.2.2.2.2.2.2.2.2.2.1,(l6,(r4.2.2.2.2.2.2.2.2.2.2.2.2.2.2.2.2.2.2.1,(r4.2.2.2.2.2.2.2.2.2.2.2.2.2.2.2.2.2.2.2.1,(r6.2.2.2.2.2.2.2.2.1,())))))))))))))))))))))))))))))))))))))))))))))))else(some (Sum.inr (((),((),((),((),((),(((),()),((),((),((),(r4.1.2.2.2.2.2.2.2.2.2.1,(r4.1.2.2.2.2.2.2.2.2.2.2.1,()))))))))))),((r4.2.1.1,((),((),((),((),((),())))))),(r4.2.2.1,(r4.2.2.2.1,(((),()),((((),((),((),()))),()),(r4.2.2.2.2.2.2.1,(((),((),(r4.2.2.2.2.2.2.2.1.2.2.1,(r4.2.2.2.2.2.2.2.1.2.2.2.1,((),((),(r4.2.2.2.2.2.2.2.1.2.2.2.2.2.2.1,(r4.2.2.2.2.2.2.2.1.2.2.2.2.2.2.2.1,(r4.2.2.2.2.2.2.2.1.2.2.2.2.2.2.2.2.1,()))))))))),(r4.2.2.2.2.2.2.2.2.1,(r4.2.2.2.2.2.2.2.2.2.1,(r4.2.2.2.2.2.2.2.2.2.2.1,(r4.2.2.2.2.2.2.2.2.2.2.2.1,(r4.2.2.2.2.2.2.2.2.2.2.2.2.1,(r4.2.2.2.2.2.2.2.2.2.2.2.2.2.1,(r4.2.2.2.2.2.2.2.2.2.2.2.2.2.2.1,(((),()),(r4.2.2.2.2.2.2.2.2.2.2.2.2.2.2.2.2.1,(r4.2.2.2.2.2.2.2.2.2.2.2.2.2.2.2.2.2.1,(r4.2.2.2.2.2.2.2.2.2.2.2.2.2.2.2.2.2.2.1,(r4.2.2.2.2.2.2.2.2.2.2.2.2.2.2.2.2.2.2.2.1,(r4.2.2.2.2.2.2.2.2.2.2.2.2.2.2.2.2.2.2.2.2.1,())))))))))))))))))))))))))
def go26_l1:ty71->Option (ty71⊕(ty77×ty70)):=(fun r2=>(bif(decide (r2.1.2.2.2.2.2.2.2.2.2.1<r2.1.2.2.2.2.2.2.2.2.1))then(grd (okB ((0<=r2.1.2.2.2.2.2.2.2.2.2.1)/\(r2.1.2.2.2.2.2.2.2.2.2.1<(r2.2.2.2.2.2.2.2.1.length:Int)))) (grd (Nat.blt r2.1.2.2.2.2.2.2.2.2.2.1.toNat r2.2.2.2.2.2.2.2.1.length) (grd (okB ((0<=(r2.2.2.2.2.2.2.2.1.getD r2.1.2.2.2.2.2.2.2.2.2.1.toNat 0))/\((r2.2.2.2.2.2.2.2.1.getD r2.1.2.2.2.2.2.2.2.2.2.1.toNat 0)<(r2.2.2.2.2.2.2.2.2.2.2.2.2.1.length:Int)))) (grd (Nat.blt (r2.2.2.2.2.2.2.2.1.getD r2.1.2.2.2.2.2.2.2.2.2.1.toNat 0).toNat r2.2.2.2.2.2.2.2.2.2.2.2.2.1.length) (qaj (@Sp.qjt Int Int (r2.2.2.2.2.2.2.2.2.2.2.2.2.1.getD (r2.2.2.2.2.2.2.2.1.getD r2.1.2.2.2.2.2.2.2.2.2.1.toNat 0).toNat cl83).params) (fun z0=>(qaj (@Sp.qjt qai qat (r2.2.2.2.2.2.2.2.2.2.2.2.2.1.getD (r2.2.2.2.2.2.2.2.1.getD r2.1.2.2.2.2.2.2.2.2.2.1.toNat 0).toNat cl83).insts) (fun z1=>(qaj (@Sp.qjt qam Edge (r2.2.2.2.2.2.2.2.2.2.2.2.2.1.getD (r2.2.2.2.2.2.2.2.1.getD r2.1.2.2.2.2.2.2.2.2.2.1.toNat 0).toNat cl83).term.to) (fun z2=>(qaj (@Sp.qjt Int Int (r2.2.2.2.2.2.2.2.2.2.2.2.2.1.getD (r2.2.2.2.2.2.2.2.1.getD r2.1.2.2.2.2.2.2.2.2.2.1.toNat 0).toNat cl83).term.qax) (fun z3=>(grd (Nat.blt (r2.2.2.2.2.2.2.2.1.getD r2.1.2.2.2.2.2.2.2.2.2.1.toNat 0).toNat r2.2.2.2.2.2.2.2.2.2.2.2.2.1.length) (qaj (@Sp.qjt Int Int (r2.2.2.2.2.2.2.2.2.2.2.2.2.1.getD (r2.2.2.2.2.2.2.2.1.getD r2.1.2.2.2.2.2.2.2.2.2.1.toNat 0).toNat cl83).params) (fun l0=>(shO (r2.2.2.2.2.2.2.2.2.2.2.2.2.1.set (r2.2.2.2.2.2.2.2.1.getD r2.1.2.2.2.2.2.2.2.2.2.1.toNat 0).toNat (qac.mk (@Ox.gone Int Int) (r2.2.2.2.2.2.2.2.2.2.2.2.2.1.getD (r2.2.2.2.2.2.2.2.1.getD r2.1.2.2.2.2.2.2.2.2.2.1.toNat 0).toNat cl83).insts (r2.2.2.2.2.2.2.2.2.2.2.2.2.1.getD (r2.2.2.2.2.2.2.2.1.getD r2.1.2.2.2.2.2.2.2.2.2.1.toNat 0).toNat cl83).term (r2.2.2.2.2.2.2.2.2.2.2.2.2.1.getD (r2.2.2.2.2.2.2.2.1.getD r2.1.2.2.2.2.2.2.2.2.2.1.toNat 0).toNat cl83).qar (r2.2.2.2.2.2.2.2.2.2.2.2.2.1.getD (r2.2.2.2.2.2.2.2.1.getD r2.1.2.2.2.2.2.2.2.2.2.1.toNat 0).toNat cl83).qa9 (r2.2.2.2.2.2.2.2.2.2.2.2.2.1.getD (r2.2.2.2.2.2.2.2.1.getD r2.1.2.2.2.2.2.2.2.2.2.1.toNat 0).toNat cl83).line)) (fun l'0=>(grd (Nat.blt (r2.2.2.2.2.2.2.2.1.getD r2.1.2.2.2.2.2.2.2.2.2.1.toNat 0).toNat l'0.length) (qaj (@Sp.qjt qai qat (l'0.getD (r2.2.2.2.2.2.2.2.1.getD r2.1.2.2.2.2.2.2.2.2.2.1.toNat 0).toNat cl83).insts) (fun l1=>(shO (l'0.set (r2.2.2.2.2.2.2.2.1.getD r2.1.2.2.2.2.2.2.2.2.2.1.toNat 0).toNat (qac.mk (l'0.getD (r2.2.2.2.2.2.2.2.1.getD r2.1.2.2.2.2.2.2.2.2.2.1.toNat 0).toNat cl83).params (@Ox.gone qai qat) (l'0.getD (r2.2.2.2.2.2.2.2.1.getD r2.1.2.2.2.2.2.2.2.2.2.1.toNat 0).toNat cl83).term (l'0.getD (r2.2.2.2.2.2.2.2.1.getD r2.1.2.2.2.2.2.2.2.2.2.1.toNat 0).toNat cl83).qar (l'0.getD (r2.2.2.2.2.2.2.2.1.getD r2.1.2.2.2.2.2.2.2.2.2.1.toNat 0).toNat cl83).qa9 (l'0.getD (r2.2.2.2.2.2.2.2.1.getD r2.1.2.2.2.2.2.2.2.2.2.1.toNat 0).toNat cl83).line)) (fun l'1=>(grd (Nat.blt (r2.2.2.2.2.2.2.2.1.getD r2.1.2.2.2.2.2.2.2.2.2.1.toNat 0).toNat l'1.length) (qaj (@Sp.qjt qam Edge (l'1.getD (r2.2.2.2.2.2.2.2.1.getD r2.1.2.2.2.2.2.2.2.2.2.1.toNat 0).toNat cl83).term.to) (fun l2=>(shO (l'1.set (r2.2.2.2.2.2.2.2.1.getD r2.1.2.2.2.2.2.2.2.2.2.1.toNat 0).toNat (qac.mk (l'1.getD (r2.2.2.2.2.2.2.2.1.getD r2.1.2.2.2.2.2.2.2.2.2.1.toNat 0).toNat cl83).params (l'1.getD (r2.2.2.2.2.2.2.2.1.getD r2.1.2.2.2.2.2.2.2.2.2.1.toNat 0).toNat cl83).insts (qau.mk (l'1.getD (r2.2.2.2.2.2.2.2.1.getD r2.1.2.2.2.2.2.2.2.2.2.1.toNat 0).toNat cl83).term.kind (l'1.getD (r2.2.2.2.2.2.2.2.1.getD r2.1.2.2.2.2.2.2.2.2.2.1.toNat 0).toNat cl83).term.cond (@Ox.gone qam Edge) (l'1.getD (r2.2.2.2.2.2.2.2.1.getD r2.1.2.2.2.2.2.2.2.2.2.1.toNat 0).toNat cl83).term.qax) (l'1.getD (r2.2.2.2.2.2.2.2.1.getD r2.1.2.2.2.2.2.2.2.2.2.1.toNat 0).toNat cl83).qar (l'1.getD (r2.2.2.2.2.2.2.2.1.getD r2.1.2.2.2.2.2.2.2.2.2.1.toNat 0).toNat cl83).qa9 (l'1.getD (r2.2.2.2.2.2.2.2.1.getD r2.1.2.2.2.2.2.2.2.2.2.1.toNat 0).toNat cl83).line)) (fun l'2=>(grd (Nat.blt (r2.2.2.2.2.2.2.2.1.getD r2.1.2.2.2.2.2.2.2.2.2.1.toNat 0).toNat l'2.length) (qaj (@Sp.qjt Int Int (l'2.getD (r2.2.2.2.2.2.2.2.1.getD r2.1.2.2.2.2.2.2.2.2.2.1.toNat 0).toNat cl83).term.qax) (fun l3=>(shO (l'2.set (r2.2.2.2.2.2.2.2.1.getD r2.1.2.2.2.2.2.2.2.2.2.1.toNat 0).toNat (qac.mk (l'2.getD (r2.2.2.2.2.2.2.2.1.getD r2.1.2.2.2.2.2.2.2.2.2.1.toNat 0).toNat cl83).params (l'2.getD (r2.2.2.2.2.2.2.2.1.getD r2.1.2.2.2.2.2.2.2.2.2.1.toNat 0).toNat cl83).insts (qau.mk (l'2.getD (r2.2.2.2.2.2.2.2.1.getD r2.1.2.2.2.2.2.2.2.2.2.1.toNat 0).toNat cl83).term.kind (l'2.getD (r2.2.2.2.2.2.2.2.1.getD r2.1.2.2.2.2.2.2.2.2.2.1.toNat 0).toNat cl83).term.cond (l'2.getD (r2.2.2.2.2.2.2.2.1.getD r2.1.2.2.2.2.2.2.2.2.2.1.toNat 0).toNat cl83).term.to (@Ox.gone Int Int)) (l'2.getD (r2.2.2.2.2.2.2.2.1.getD r2.1.2.2.2.2.2.2.2.2.2.1.toNat 0).toNat cl83).qar (l'2.getD (r2.2.2.2.2.2.2.2.1.getD r2.1.2.2.2.2.2.2.2.2.2.1.toNat 0).toNat cl83).qa9 (l'2.getD (r2.2.2.2.2.2.2.2.1.getD r2.1.2.2.2.2.2.2.2.2.2.1.toNat 0).toNat cl83).line)) (fun l'3=>(qaj (q7s (l0,((((),((),((),()))),()),((r2.2.1.1,((),((),((),((),((),())))))),(r2.2.2.2.2.2.2.2.2.1,(r2.2.2.2.2.2.2.2.2.2.1,(r2.2.2.2.2.2.2.2.2.2.2.1,(r2.2.2.2.2.2.2.2.2.2.2.2.1,(l'3,(((),()),(r2.2.2.2.2.2.2.2.2.2.2.2.2.2.2.2.1,(((),()),(r2.2.2.2.2.2.2.2.2.2.2.2.2.2.1,()))))))))))))) (fun r3=>(grd ((decide (r3.2.1.length=l0.length))&&((decide ((1:Nat)=1))&&((decide ((1:Nat)=1))&&((decide (r3.2.2.2.2.1.length=r2.2.2.2.2.2.2.2.2.1.length))&&((decide (r3.2.2.2.2.2.1.length=r2.2.2.2.2.2.2.2.2.2.1.length))&&((decide (r3.2.2.2.2.2.2.1.length=r2.2.2.2.2.2.2.2.2.2.2.1.length))&&((decide (r3.2.2.2.2.2.2.2.1.length=r2.2.2.2.2.2.2.2.2.2.2.2.1.length))&&((decide (r3.2.2.2.2.2.2.2.2.1.length=l'3.length))&&((decide ((1:Nat)=1))&&((decide ((1:Nat)=1))&&true)))))))))) (qaj (qap (go26_l2) (((),((),((),((),((),(((),()),((),((),((),(r2.1.2.2.2.2.2.2.2.2.1,(r2.1.2.2.2.2.2.2.2.2.2.1,((l1.length:Int),(0,()))))))))))))),((r3.2.2.2.1.1,((),((),((),((),((),())))))),(r2.2.2.1,((@qij Int r2.2.2.2.1 (qb1.i (r2.2.2.2.2.2.2.2.1.getD r2.1.2.2.2.2.2.2.2.2.2.1.toNat 0)) r2.1.2.2.2.2.2.2.2.2.2.1),(((),()),((((),((),((),()))),()),(r2.2.2.2.2.2.2.1,(((),((),((r2.2.2.2.2.2.2.2.2.2.2.2.2.1.getD (r2.2.2.2.2.2.2.2.1.getD r2.1.2.2.2.2.2.2.2.2.2.1.toNat 0).toNat cl83).term.kind,((r2.2.2.2.2.2.2.2.2.2.2.2.2.1.getD (r2.2.2.2.2.2.2.2.1.getD r2.1.2.2.2.2.2.2.2.2.2.1.toNat 0).toNat cl83).term.cond,((),((),((r2.2.2.2.2.2.2.2.2.2.2.2.2.1.getD (r2.2.2.2.2.2.2.2.1.getD r2.1.2.2.2.2.2.2.2.2.2.1.toNat 0).toNat cl83).qar,((r2.2.2.2.2.2.2.2.2.2.2.2.2.1.getD (r2.2.2.2.2.2.2.2.1.getD r2.1.2.2.2.2.2.2.2.2.2.1.toNat 0).toNat cl83).qa9,((r2.2.2.2.2.2.2.2.2.2.2.2.2.1.getD (r2.2.2.2.2.2.2.2.1.getD r2.1.2.2.2.2.2.2.2.2.2.1.toNat 0).toNat cl83).line,()))))))))),(r2.2.2.2.2.2.2.2.1,(r3.2.2.2.2.1,(r3.2.2.2.2.2.1,(r3.2.2.2.2.2.2.1,(r3.2.2.2.2.2.2.2.1,(r3.2.2.2.2.2.2.2.2.1,(r3.2.2.2.2.2.2.2.2.2.2.2.2.2.1,(((),()),(r3.2.1,(l1,(l2,(l3,(r3.2.2.2.2.2.2.2.2.2.2.1,())))))))))))))))))))))) (fun z4=>(jpO (go26_j2) (fun j0=>(bif(decide (0<=z4.2.2.2.2.2.2.2.1.2.2.2.1))then(qaj (q7t z4.2.2.2.2.2.2.2.1.2.2.2.1 ((z4.2.1.1,((),((),((),((),((),())))))),(z4.2.2.2.2.2.2.2.2.2.1,(z4.2.2.2.2.2.2.2.2.2.2.1,(z4.2.2.2.2.2.2.2.2.2.2.2.1,(z4.2.2.2.2.2.2.2.2.2.2.2.2.1,(z4.2.2.2.2.2.2.2.2.2.2.2.2.2.1,(((),()),(z4.2.2.2.2.2.2.2.2.2.2.2.2.2.2.2.2.2.2.2.2.1,(((),()),(z4.2.2.2.2.2.2.2.2.2.2.2.2.2.2.1,()))))))))))) (fun r4=>(grd ((decide ((1:Nat)=1))&&((decide (r4.2.2.1.length=z4.2.2.2.2.2.2.2.2.2.1.length))&&((decide (r4.2.2.2.1.length=z4.2.2.2.2.2.2.2.2.2.2.1.length))&&((decide (r4.2.2.2.2.1.length=z4.2.2.2.2.2.2.2.2.2.2.2.1.length))&&((decide (r4.2.2.2.2.2.1.length=z4.2.2.2.2.2.2.2.2.2.2.2.2.1.length))&&((decide (r4.2.2.2.2.2.2.1.length=z4.2.2.2.2.2.2.2.2.2.2.2.2.2.1.length))&&((decide ((1:Nat)=1))&&((decide ((1:Nat)=1))&&true)))))))) (j0 (((),((),((),((),((),(((),()),((),((),((),(z4.1.2.2.2.2.2.2.2.2.2.1,(z4.1.2.2.2.2.2.2.2.2.2.2.1,()))))))))))),((r4.2.1.1,((),((),((),((),((),())))))),(z4.2.2.1,(z4.2.2.2.1,(((),()),((((),((),((),()))),()),(z4.2.2.2.2.2.2.1,(((),((),(z4.2.2.2.2.2.2.2.1.2.2.1,(r4.1,((),((),(z4.2.2.2.2.2.2.2.1.2.2.2.2.2.2.1,(z4.2.2.2.2.2.2.2.1.2.2.2.2.2.2.2.1,(z4.2.2.2.2.2.2.2.1.2.2.2.2.2.2.2.2.1,()))))))))),(z4.2.2.2.2.2.2.2.2.1,(r4.2.2.1,(r4.2.2.2.1,(r4.2.2.2.2.1,(r4.2.2.2.2.2.1,(r4.2.2.2.2.2.2.1,(r4.2.2.2.2.2.2.2.2.2.2.2.1,(((),()),(z4.2.2.2.2.2.2.2.2.2.2.2.2.2.2.2.2.1,(z4.2.2.2.2.2.2.2.2.2.2.2.2.2.2.2.2.2.1,(z4.2.2.2.2.2.2.2.2.2.2.2.2.2.2.2.2.2.2.1,(z4.2.2.2.2.2.2.2.2.2.2.2.2.2.2.2.2.2.2.2.1,(r4.2.2.2.2.2.2.2.2.1,())))))))))))))))))))))))))else(j0 (((),((),((),((),((),(((),()),((),((),((),(z4.1.2.2.2.2.2.2.2.2.2.1,(z4.1.2.2.2.2.2.2.2.2.2.2.1,()))))))))))),((z4.2.1.1,((),((),((),((),((),())))))),(z4.2.2.1,(z4.2.2.2.1,(((),()),((((),((),((),()))),()),(z4.2.2.2.2.2.2.1,(((),((),(z4.2.2.2.2.2.2.2.1.2.2.1,(z4.2.2.2.2.2.2.2.1.2.2.2.1,((),((),(z4.2.2.2.2.2.2.2.1.2.2.2.2.2.2.1,(z4.2.2.2.2.2.2.2.1.2.2.2.2.2.2.2.1,(z4.2.2.2.2.2.2.2.1.2.2.2.2.2.2.2.2.1,()))))))))),(z4.2.2.2.2.2.2.2.2.1,(z4.2.2.2.2.2.2.2.2.2.1,(z4.2.2.2.2.2.2.2.2.2.2.1,(z4.2.2.2.2.2.2.2.2.2.2.2.1,(z4.2.2.2.2.2.2.2.2.2.2.2.2.1,(z4.2.2.2.2.2.2.2.2.2.2.2.2.2.1,(z4.2.2.2.2.2.2.2.2.2.2.2.2.2.2.1,(((),()),(z4.2.2.2.2.2.2.2.2.2.2.2.2.2.2.2.2.1,(z4.2.2.2.2.2.2.2.2.2.2.2.2.2.2.2.2.2.1,(z4.2.2.2.2.2.2.2.2.2.2.2.2.2.2.2.2.2.2.1,(z4.2.2.2.2.2.2.2.2.2.2.2.2.2.2.2.2.2.2.2.1,(z4.2.2.2.2.2.2.2.2.2.2.2.2.2.2.2.2.2.2.2.2.1,()))))))))))))))))))))))))))))))))))))))))))))))))))))))))))))))else(some (Sum.inr (((),((),((),((),((),()))))),((r2.2.1.1,((),((),((),((),((),())))))),(r2.2.2.1,(r2.2.2.2.1,(((),()),(r2.2.2.2.2.2.2.1,(r2.2.2.2.2.2.2.2.2.1,(r2.2.2.2.2.2.2.2.2.2.1,(r2.2.2.2.2.2.2.2.2.2.2.1,(r2.2.2.2.2.2.2.2.2.2.2.2.1,(r2.2.2.2.2.2.2.2.2.2.2.2.2.1,(r2.2.2.2.2.2.2.2.2.2.2.2.2.2.1,()))))))))))))))))
def go26(x0:Fn):ty80:=(qaj (grd (okB (Fn.ok x0)) (some ((x0.name,((),((),((),((),((),())))))),(x0.qaa,(x0.qag,(x0.streams,(x0.qax,((@List.map Block qab Sp.qct x0.blocks),())))))))) (fun r0=>(qaj (grd (okB (Fn.ok (Fn.mk r0.1.1 r0.2.1 r0.2.2.1 r0.2.2.2.1 r0.2.2.2.2.1 (@List.map qab Block qab.dat r0.2.2.2.2.2.1)))) (some ((),((Sp.order (Fn.mk r0.1.1 r0.2.1 r0.2.2.1 r0.2.2.2.1 r0.2.2.2.2.1 (@List.map qab Block qab.dat r0.2.2.2.2.2.1))),())))) (fun r1=>(qaj (qap (go26_l1) (((),((),((),((),((),(((),()),((),((),((r1.2.1.length:Int),(0,())))))))))),((r0.1.1,((),((),((),((),((),())))))),(Fn.z,((fun z0=>none),(((),()),((((),((),((),()))),()),(([]:List qac),(r1.2.1,(r0.2.1,(r0.2.2.1,(r0.2.2.2.1,(r0.2.2.2.2.1,((@List.map qab qac qac.up r0.2.2.2.2.2.1),(([]:List Int),(((),()),((fun z0=>none),()))))))))))))))))) (fun z0=>(qaj (qap (go26_l4) (((),((),((),((),((),((z0.2.2.2.2.2.1.length:Int),(0,()))))))),((z0.2.1.1,((),((),((),((),((),())))))),(z0.2.2.1,(z0.2.2.2.1,(((),()),(z0.2.2.2.2.2.1,(z0.2.2.2.2.2.2.1,(z0.2.2.2.2.2.2.2.1,(z0.2.2.2.2.2.2.2.2.1,(z0.2.2.2.2.2.2.2.2.2.1,(z0.2.2.2.2.2.2.2.2.2.2.1,(z0.2.2.2.2.2.2.2.2.2.2.2.1,()))))))))))))) (fun z1=>(qaj (@Sp.q75 qac qab qac.dn z1.2.2.2.2.1) (fun r2=>(brO (some ((z1.2.1.1,((),((),((),((),((),())))))),(z1.2.2.2.2.2.2.2.2.2.2.1,(z1.2.2.2.2.2.2.1,(z1.2.2.2.2.2.2.2.1,(z1.2.2.2.2.2.2.2.2.1,(r2,()))))))) (some ((z1.2.1.1,((),((),((),((),((),())))))),(z1.2.2.2.2.2.2.2.2.2.2.1,(z1.2.2.2.2.2.2.1,(z1.2.2.2.2.2.2.2.1,(z1.2.2.2.2.2.2.2.2.1,(r2,()))))))))))))))))))
theorem run26(x0:Fn):qdd (P:=Try.prog) [c25,c66,c67,c68] Try.f26 ann26 [(0,(.st 6))] [] (.agg [.s,(.full 0),(.full 1),(.full 2),(.full 3),(.full 4)]) [(.lst 3 (.int .i64)),(.lst 53 (.st 4)),(.lst 55 (.st 5)),(.lst 3 (.int .i64)),(.lst 41 (.st 11))] (x0,()) ()=go26 x0:=by kernel_rfl
end
end Go.Abs
namespace Go.Abs
open Go Go.Proofs
noncomputable section
structure K26 where
 nm:ByteArray
 W:List Int
 a:List Arr
 t:List qbd
 rt:List Int
 z:Fn
 m:qb1->Option Int
 out:List qac
 kd:Int
 cd:Int
 pp:Int
 un:Int
 ln:Int
 ord:List Int
 bl:List qac
def Y4(a b c d:Int):Unit×(Unit×(Unit×(Unit×(Unit×((Unit×Unit)×(Unit×(Unit×(Unit×(Int×(Int×(Int×(Int×Unit)))))))))))):=((),((),((),((),((),(((),()),((),((),((),(a,(b,(c,(d,())))))))))))))
def Y2(a b:Int):Unit×(Unit×(Unit×(Unit×(Unit×((Unit×Unit)×(Unit×(Unit×(Unit×(Int×(Int×Unit)))))))))):=((),((),((),((),((),(((),()),((),((),((),(a,(b,())))))))))))
abbrev X9:=Unit×(Unit×(Int×(Int×(Unit×(Unit×(Int×(Int×(Int×Unit))))))))
abbrev T26:=F67×(Fn×((qb1->Option Int)×((Unit×Unit)×(N68×(List qac×(X9×(List Int×(List Int×(List Arr×(List qbd×(List Int×(List qac×(List Int×((Unit×Unit)×(List Int×(List qai×(List qam×(List Int×((qb1->Option Int)×Unit)))))))))))))))))))
def H26(K:K26)(s:RS)(ps:List Int)(is:List qai)(to:List qam)(rs:List Int):T26:=
 (f67 K.nm,(K.z,(K.m,(((),()),((((),((),((),()))),()),(K.out,(((),((),(K.kd,(K.cd,((),((),(K.pp,(K.un,(K.ln,()))))))))),(K.ord,(K.W,(K.a,(K.t,(K.rt,(K.bl,(s.2,(((),()),(ps,(is,(to,(rs,(s.1,()))))))))))))))))))))
theorem qpq(l:List Int)(nm W a t rt bl s):q7s (l,((((),((),((),()))),()),b67 nm W a t rt bl s))=grd (room (s.2.length+l.length)) (some ((),((Sp.qg0 W l s).1,((((),((),((),()))),()),r67 nm W a t rt bl (Sp.qg0 W l s).2)))):=rfl
theorem qwd(K:K26)(hW:K.W.length<=100000)(ps:List Int)(is:List qai)(rs:List Int)(n i:Int):∀(l2:List Edge) (l1:List qam) (s:RS),qh5 K.W s->l1.length+l2.length<=100000->(∀e∈l2,e.args.length<=100000) ->
  qap go26_l3 (Y4 n i ((l1.length+l2.length:Nat):Int) (l1.length:Int),H26 K s ps is (l1++l2.map Sp.qcm) rs)=some (Y2 n i,H26 K (qgr (Sp.qkz K.W) l2 s).2 ps is (l1++(qgr (Sp.qkz K.W) l2 s).1.map Sp.qcm) rs)
 |[],l1,s,hI,hl,ha=>by
  rw[qbt];unfold go26_l3 H26 Y4 Y2;simp only[qgr,zji,zka,List.map_nil];simp(maxSteps:=1000000) (disch:=((try dsimp only);omega)) only[↓gsA,gsB]
 |v::l2,l1,s,hI,hl,ha=>by
  simp only[zi9]at hl;have hv:=ha v (zjd ..);have hr:=hI.room hW hv;have ih:=qwd K hW ps is rs n i l2 (l1++[Sp.qcm (Sp.qkz K.W v s).1]) (Sp.qkz K.W v s).2 (qrw K.W v s hI) (by simp only[zjh,zi9,zji];omega) (fun e he=>ha e (zjk _ he))
  rw[qbt];have e:=qpq v.args K.nm K.W K.a K.t K.rt K.bl s;have eL:=qey K.W v.args s;rw[hr]at e;unfold b67 r67 f67 at e;have step:go26_l3 (Y4 n i ((l1.length+(v::l2).length:Nat):Int) (l1.length:Int),H26 K s ps is (l1++(v::l2).map Sp.qcm) rs)=some (.inl (Y4 n i ((l1.length+(v::l2).length:Nat):Int) ((l1.length+1:Nat):Int),H26 K (Sp.qkz K.W v s).2 ps is (l1++Sp.qcm (Sp.qkz K.W v s).1::l2.map Sp.qcm) rs)):=by
   unfold go26_l3;simp only[H26,Y4,f67,zjl,zjh,zi9,zje,zja,qd0,qfl];rw[show(Sp.qcm v).args=.own v.args from rfl];simp only[Sp.qgx,qaf,e];simp(maxSteps:=1000000) (disch:=((try dsimp only);omega)) only[↓gsA,gsB]
   simp only[eL,decide_true,zjq,zjy,qba];rfl
  rw[step];simp only[zjh,zi9,zji,zkr,zk7,zjf]at ih;simp only[qgr,zjl,zi9];rw[show l1.length+(l2.length+1)=l1.length+1+l2.length by omega];exact ih
theorem qwe(K:K26)(hW:K.W.length<=100000)(ps:List Int)(to:List qam)(rs:List Int)(n i:Int):∀(l2:List qat) (l1:List qai) (s:RS),qh5 K.W s->l1.length+l2.length<=100000->(∀e∈l2,e.args.length<=100000) ->
  qap go26_l2 (Y4 n i ((l1.length+l2.length:Nat):Int) (l1.length:Int),H26 K s ps (l1++l2.map Sp.qc7) to rs)=some (Y2 n i,H26 K (qgr (Sp.qky K.W) l2 s).2 ps (l1++(qgr (Sp.qky K.W) l2 s).1.map Sp.qc7) to rs)
 |[],l1,s,hI,hl,ha=>by
  rw[qbt];unfold go26_l2 H26 Y4 Y2;simp only[qgr,zji,zka,List.map_nil];simp(maxSteps:=1000000) (disch:=((try dsimp only);omega)) only[↓gsA,gsB]
 |v::l2,l1,s,hI,hl,ha=>by
  simp only[zi9]at hl;have hv:=ha v (zjd ..);have hr:=hI.room hW hv;have hI2:=qhw K.W v.args s hI;have hr2:=hI2.room hW (n:=0) (by omega);rw[zka]at hr2;have ih:=qwe K hW ps to rs n i l2 (l1++[Sp.qc7 (Sp.qky K.W v s).1]) (Sp.qky K.W v s).2 (qrv K.W v s hI) (by simp only[zjh,zi9,zji];omega) (fun e he=>ha e (zjk _ he))
  rw[qbt];have e:=qpq v.args K.nm K.W K.a K.t K.rt K.bl s;have e2:=qtj v.dest K.nm K.W K.a K.t K.rt K.bl (Sp.qg0 K.W v.args s).2;have eL:=qey K.W v.args s;rw[hr]at e;rw[hr2]at e2;unfold b67 r67 f67 at e e2;have step:go26_l2 (Y4 n i ((l1.length+(v::l2).length:Nat):Int) (l1.length:Int),H26 K s ps (l1++(v::l2).map Sp.qc7) to rs)=some (.inl (Y4 n i ((l1.length+(v::l2).length:Nat):Int) ((l1.length+1:Nat):Int),H26 K (Sp.qky K.W v s).2 ps (l1++Sp.qc7 (Sp.qky K.W v s).1::l2.map Sp.qc7) to rs)):=by
   unfold go26_l2 go26_j1;simp only[H26,Y4,f67,zjl,zjh,zi9,zje,zja,qd0,qfl];rw[show(Sp.qc7 v).args=.own v.args from rfl,show(Sp.qc7 v).dest=v.dest from rfl];simp only[Sp.qgx,qaf,e,e2];simp(maxSteps:=1000000) (disch:=((try dsimp only);omega)) only[↓gsA,gsB]
   simp only[eL,decide_true,zjq,zjy,qba,zjh,zi9,zje,qd0,qfl];simp(maxSteps:=1000000) (disch:=((try dsimp only);omega)) only[↓gsA,gsB]
   simp only[qaf,e2,qlt,zjh,zi9,zje,qd0,qfl];simp(maxSteps:=1000000) (disch:=((try dsimp only);omega)) only[↓gsA,gsB]
   simp only[eL,decide_true,zjq,zjy,qba,zjh,zi9,zje,qd0,qfl];rfl
  rw[step];simp only[zjh,zi9,zji,zkr,zk7,zjf]at ih;simp only[qgr,zjl,zi9];rw[show l1.length+(l2.length+1)=l1.length+1+l2.length by omega];exact ih
def Y1(a b:Int):Unit×(Unit×(Unit×(Unit×(Unit×((Unit×Unit)×(Unit×(Unit×(Int×(Int×Unit))))))))):=((),((),((),((),((),(((),()),((),((),(a,(b,()))))))))))
abbrev T1:=F67×(Fn×((qb1->Option Int)×((Unit×Unit)×(N68×(List qac×(List Int×(List Int×(List Arr×(List qbd×(List Int×(List qac×(List Int×((Unit×Unit)×((qb1->Option Int)×Unit))))))))))))))
def H1(K:K26)(s:RS):T1:=(f67 K.nm,(K.z,(K.m,(((),()),((((),((),((),()))),()),(K.out,(K.ord,(K.W,(K.a,(K.t,(K.rt,(K.bl,(s.2,(((),()),(s.1,())))))))))))))))
theorem zhb(K:K26)(hW:K.W.length<=100000)(hout:K.out.length<=100000)(ps:List Int)(is:List qai)(to:List Edge)(rs:List Int)(n i:Nat)(hi:i<=100000)(s:RS)(hI:qh5 K.W s)(hto:to.length<=100000)(hta:∀e∈to,e.args.length<=100000)(hrs:rs.length<=100000) :
  go26_j2 (Y2 n i,H26 K s ps is (to.map Sp.qcm) rs)=some (.inl (Y1 n ((i+1:Nat):Int),H1 { K with out:=K.out++[⟨.own ps,.own is,⟨K.kd,K.cd,.own ((qgr (Sp.qkz K.W) to (Sp.qg0 K.W rs s).2).1.map Sp.qcm),.own (Sp.qg0 K.W rs s).1⟩,K.pp,K.un,K.ln⟩] } (qgr (Sp.qkz K.W) to (Sp.qg0 K.W rs s).2).2)):=by
 have e:=qpq rs K.nm K.W K.a K.t K.rt K.bl s;have eL:=qey K.W rs s;rw[hI.room hW hrs]at e;have k:=qwd K hW ps is (Sp.qg0 K.W rs s).1 n i to [] (Sp.qg0 K.W rs s).2 (qhw K.W rs s hI) (by simpa using hto) hta;have k0:((0:Nat):Int)=0:=rfl;simp only[zji,zjf,zj8,k0]at k;unfold Y4 Y2 H26 f67 at k;unfold b67 r67 f67 at e;unfold go26_j2;simp only[H26,Y2,f67,e];simp(maxSteps:=1000000) (disch:=((try dsimp only);omega)) only[↓gsA,gsB]
 simp only[eL,decide_true,zjq,zjy,qba,zje];rw[k];simp(maxSteps:=1000000) (disch:=((try dsimp only);omega)) only[↓gsA,gsB]
 rfl
def qqr(b:Block):qac:=⟨.gone,.gone,⟨b.term.kind,b.term.cond,.gone,.gone⟩,b.qar,b.qa9,b.line⟩
def qn2(b:Block):qac:=⟨.own b.params,.own (b.insts.map Sp.qc7),⟨b.term.kind,b.term.cond,.own (b.term.to.map Sp.qcm),.own b.term.qax⟩,b.qar,b.qa9,b.line⟩
theorem qt4(W:List Int)(v:Int)(s:RS)(h:v<0):Sp.num W v s=(v,s):=by
 unfold Sp.num;rw[if_pos (.inl h)]
theorem zdj(K:K26)(hW:K.W.length<=100000)(hout:K.out.length<=100000)(b:Block)(hb:SmB b)(b1 b2:List qac)(hbl:K.bl=b1++qn2 b::b2)(n i:Nat)(hin:i<n)(hn:n<=100000)(ho:K.ord.getD i 0=(b1.length:Int))(hol:K.ord.length=n)(s:RS)(hI:qh5 K.W s) :
  go26_l1 (Y1 n i,H1 K s)=some (.inl (Y1 n ((i+1:Nat):Int),H1 { K with m:=qij K.m (.i (b1.length:Int)) (i:Int),out:=K.out++[qn2 (Sp.q0u K.W b s).1],bl:=b1++qqr b::b2 } (Sp.q0u K.W b s).2)):=by
 obtain⟨nm,W,a,t,rt,z,m,out,kd,cd,pp,un,ln,ord,bl⟩:=K;simp only at hW hout hbl ho hol hI ⊢;subst hbl;obtain⟨hb1,hb2,hb3,hb4,hb5,hb6⟩:=hb
 let K2:K26:=⟨nm,W,a,t,rt,z,qij m (.i (b1.length:Int)) (i:Int),out,b.term.kind,b.term.cond,b.qar,b.qa9,b.line,ord,b1++qqr b::b2⟩
 have e:=qpq b.params nm W a t rt (b1++qqr b::b2) s;have eL:=qey W b.params s;rw[hI.room hW hb1]at e;have k:=qwe K2 hW (Sp.rPs W b s).1 (b.term.to.map Sp.qcm) b.term.qax n i b.insts [] (Sp.rPs W b s).2 (q0r W b s hI) (by simpa using hb2) hb5;have k0:((0:Nat):Int)=0:=rfl;simp only[zji,zjf,zj8,k0]at k;have hI2:=q0s W b s hI;have e67:=qtj b.term.cond nm W a t rt (b1++qqr b::b2) (Sp.rIs W b s).2;rw[show room (Sp.rIs W b s).2.2.length=true from hI2.room hW (n:=0) (by omega)]at e67;have j:=zhb { K2 with cd:=(Sp.rCd W b s).1 } hW hout (Sp.rPs W b s).1 ((Sp.rIs W b s).1.map Sp.qc7) b.term.to b.term.qax n i (by omega) (Sp.rCd W b s).2 (q0t W b s hI) hb3 hb6 hb4;rw[show Sp.qg0 W b.params s=Sp.rPs W b s from rfl]at e eL;rw[show qgr (Sp.qky K2.W) b.insts (Sp.rPs W b s).2=Sp.rIs W b s from rfl]at k;rw[show Sp.num W b.term.cond (Sp.rIs W b s).2=Sp.rCd W b s from rfl]at e67;unfold Y4 Y2 H26 f67 at k;unfold b67 r67 f67 qqr at e e67;unfold Y2 H26 f67 at j;dsimp only[K2,qqr]at k j;unfold go26_l1;show(bif decide ((i:Int)<(n:Int))then _ else _)=_;rw[decide_eq_true (show(i:Int)<(n:Int)by omega),cond_true];simp only[H1,Y1,f67,zja,ho,zjh,zi9,zje,qd0,qfl,qn2,Sp.qjt,qaf];simp(maxSteps:=1000000) (disch:=((try dsimp only);omega)) only[↓gsA,gsB]
 simp only[zjh,zi9,zje,qd0,qfl,Sp.qjt,qaf];simp(maxSteps:=1000000) (disch:=((try dsimp only);omega)) only[↓gsA,gsB]
 rw[qba]at e e67;simp only[e,qaf];simp only[eL,zjh,zi9,decide_true,zjq,zjy,qba];rw[k];simp only[qaf];by_cases hc:0<=b.term.cond
 ·simp only[hc,if_true,e67,qaf,zjh,zi9,decide_true,zjq,zjy,qba];rw[j];rfl
 ·have hz:Sp.rCd W b s=(b.term.cond,(Sp.rIs W b s).2):=qt4 W _ _ (by omega);rw[hz]at j;simp only[hc,if_false];rw[j];simp only[Sp.q0u,Sp.rTo,Sp.rRs,hz];rfl
end
end Go.Abs
namespace Go.Abs
open Go Go.Proofs
noncomputable section
def ann100:Ann:=(.seq .o (.seq .o .o))
def go100(x0:qat)(x1:qat):(Option (Bool×Unit)):=(bif(decide (x0.op=x1.op))then(bif(decide (x0.dest=x1.dest))then(qaj (grd (okB (x0.args.length<=LEN)) (some ((decide (x0.args=x1.args)),()))) (fun r0=>(bif r0.1 then(bif(decide (x0.num=x1.num))then(some ((decide (x0.mem=x1.mem)),()))else(some (false,())))else(some (false,())))))else(some (false,())))else(some (false,())))
theorem run100(x0:qat)(x1:qat):qdd (P:=Try.prog) [c39] Try.f100 ann100 [(0,(.st 0)),(1,(.st 0))] [] .b [] (x0,(x1,())) ()=go100 x0 x1:=by kernel_rfl
theorem qpd(b:ByteArray):∀(k i:Nat) (r:List UInt8),i+k=b.size->ByteArray.toList.loop b i r=r.reverse++b.data.toList.drop i
 |0,i,r,h=>by
  unfold ByteArray.toList.loop;rw[if_neg (by omega)];have:b.data.toList.length=b.size:=zkz;rw[List.drop_eq_nil_of_le (by omega),zkd]
 |k+1,i,r,h=>by
  unfold ByteArray.toList.loop;rw[if_pos (by omega),qpd b k (i+1) _ (by omega)];have hi:i<b.data.size:=by have:b.data.size=b.size:=rfl;omega
  have hl:i<b.data.toList.length:=by rw[zkz];exact hi
  rw[List.drop_eq_getElem_cons hl];have:b.get! i=b.data.toList[i]:=by
   have hi':i<b.size:=hi;simp[ByteArray.get!,hi']
  rw[this];simp
theorem qpe(b:ByteArray):b.toList=b.data.toList:=by
 unfold ByteArray.toList;rw[qpd b b.size 0 [] (by omega)];simp
theorem bytes_beq(a b:ByteArray):(a.toList==b.toList)=decide (a=b):=by
 rw[qpe,qpe];by_cases h:a=b
 ·subst h;simp
 ·rw[decide_eq_false h];have:a.data.toList≠b.data.toList:=fun e=>h (ByteArray.ext_iff.2 (Array.toList_inj.1 e));simpa using this
theorem qki{α:Type}[DecidableEq α](z:α){x y:List α}(h:x.length=y.length):((List.range x.length).all fun i=>decide (x.getD i z=y.getD i z))=decide (x=y):=by
 by_cases e:x=y
 ·subst e;simp
 ·rw[decide_eq_false e];have:¬ ∀i,i<x.length->x.getD i z=y.getD i z:=fun hall=>e (zkv h fun i h1 h2=>by
   have:=hall i h1;simpa[zi5,h1,h2]using this)
  simp only[Bool.eq_false_iff,ne_eq,zjm,zj3,decide_eq_true_eq];exact this
theorem q3l(a b:Arr):((a.name.toList==b.name.toList)&&((decide (a.width=b.width))&&((decide (a.len=b.len))&&((decide (a.kind=b.kind))&&(decide (a.factor=b.factor))))))=decide (a=b):=by
 rw[bytes_beq];cases a;cases b;simp only[Arr.mk.injEq,Bool.decide_and]
theorem qve(a b:qbd):((a.name.toList==b.name.toList)&&((decide (a.width=b.width))&&(a.out==b.out)))=decide (a=b):=by
 rw[bytes_beq];cases a with
 |mk n1 w1 o1=>
  cases b with
  |mk n2 w2 o2=>
   simp only[qbd.mk.injEq,Bool.decide_and];cases o1<;>cases o2<;>rfl
def Sp.qps(x y:Edge):Bool:=decide (x=y)
def Sp.qlc(x y:qat):Bool:=decide (x=y)
theorem zaj(a b:qat):decide (a=b)=(decide (a.op=b.op)&&(decide (a.dest=b.dest)&&(decide (a.args=b.args)&&(decide (a.num=b.num)&&decide (a.mem=b.mem))))):=by
 cases a;cases b;simp only[qat.mk.injEq,Bool.decide_and]
theorem ok100(a b:qat)(h:a.args.length<=LEN):go100 a b=some (decide (a=b),()):=by
 unfold go100;rw[qak h,zaj];simp only[qaf];cases decide (a.op=b.op)<;>cases decide (a.dest=b.dest)<;>cases decide (a.num=b.num)<;>cases decide (a.mem=b.mem)<;>cases decide (a.args=b.args)<;>rfl
def c100:Ctr Try.prog:=qbl 100 Try.f100 Try.func100 [c39] ann100 [(0,(.st 0)),(1,(.st 0))] [] .b [] (fun x _=>grd (okB (x.1.args.length<=LEN)) (some (Sp.qlc x.1 x.2.1,()))) (fun x _ r h=>FO (run100 x.1 x.2.1) (ok100 x.1 x.2.1) h)
end
end Go.Abs
namespace Go.Abs
open Go Go.Proofs
noncomputable section
def go98_l1:(((List Edge)×(Unit×((List Edge)×(Int×(Int×Unit)))))×Unit)->Option ((((List Edge)×(Unit×((List Edge)×(Int×(Int×Unit)))))×Unit)⊕((Unit×Unit)⊕((Bool×Unit)×Unit))):=(fun r0=>(bif(decide (r0.1.2.2.2.2.1<r0.1.2.2.2.1))then(grd (okB ((0<=r0.1.2.2.2.2.1)/\(r0.1.2.2.2.2.1<(r0.1.2.2.1.length:Int)))) (grd (okB ((0<=r0.1.2.2.2.2.1)/\(r0.1.2.2.2.2.1<(r0.1.1.length:Int)))) (qaj (grd (okB ((r0.1.2.2.1.getD r0.1.2.2.2.2.1.toNat Edge.z).args.length<=LEN)) (some ((Sp.qps (r0.1.2.2.1.getD r0.1.2.2.2.2.1.toNat Edge.z) (r0.1.1.getD r0.1.2.2.2.2.1.toNat Edge.z)),()))) (fun r1=>(bif(!r1.1)then(some (Sum.inr (Sum.inr ((false,()),()))))else(grd (okB (((-9223372036854775808)<=(r0.1.2.2.2.2.1+1))/\((r0.1.2.2.2.2.1+1)<=9223372036854775807))) (some (Sum.inl ((r0.1.1,((),(r0.1.2.2.1,(r0.1.2.2.2.1,((r0.1.2.2.2.2.1+1),()))))),())))))))))else(some (Sum.inr (Sum.inl ((),()))))))
def go98(x0:(List Edge))(x1:(List Edge))(x2:Unit):(Option (Bool×Unit)):=(bif(!(decide ((x0.length:Int)=(x1.length:Int))))then(some (false,()))else(qaj (qap (go98_l1) ((x1,((),(x0,((x0.length:Int),(0,()))))),())) (fun z0=>(qgu (fun z1=>(some (true,()))) (fun z1=>(some (z1.1.1,()))) z0))))
def ann59:Ann:=(.seq .o (.join sh97 (.seq .o (.cond (.seq .o .o) .o)) (.join sh97 (.seq .o (.block (.loop sh98 [((.exit 0),sh97),(.ret,sh99)] (.join sh98 (.seq .o (.cond .o .o)) (.join sh98 (.block (.seq .o (.cond (.seq .o .o) .o))) .o))))) (.join ⟨[],[]⟩ (.seq .o (.block (.loop sh100 [((.exit 2),⟨[],[]⟩),(.ret,sh99)] (.join sh100 (.seq .o (.cond .o .o)) (.join sh100 (.block (.seq .o (.cond (.seq .o .o) .o))) .o))))) (.seq .o .o)))))
def go59_l2:ty79->Option (ty79⊕((Unit×Unit)⊕((Bool×Unit)×Unit))):=(fun r2=>(bif(decide (r2.1.2.2.1<(r2.2.1.term.to.length:Int)))then(grd (okB ((0<=r2.1.2.2.1)/\(r2.1.2.2.1<(r2.2.1.term.to.length:Int)))) (grd (okB ((0<=r2.1.2.2.1)/\(r2.1.2.2.1<(r2.2.2.1.term.to.length:Int)))) (bif(!(decide ((r2.2.1.term.to.getD r2.1.2.2.1.toNat Edge.z).block=(r2.2.2.1.term.to.getD r2.1.2.2.1.toNat Edge.z).block)))then(some (Sum.inr (Sum.inr ((false,()),()))))else(grd (okB ((0<=r2.1.2.2.1)/\(r2.1.2.2.1<(r2.2.1.term.to.length:Int)))) (grd (okB ((0<=r2.1.2.2.1)/\(r2.1.2.2.1<(r2.2.2.1.term.to.length:Int)))) (qaj (grd (okB ((r2.2.1.term.to.getD r2.1.2.2.1.toNat Edge.z).args.length<=LEN)) (some ((decide ((r2.2.1.term.to.getD r2.1.2.2.1.toNat Edge.z).args=(r2.2.2.1.term.to.getD r2.1.2.2.1.toNat Edge.z).args)),()))) (fun r3=>(bif(!r3.1)then(some (Sum.inr (Sum.inr ((false,()),()))))else(grd (okB (((-9223372036854775808)<=(r2.1.2.2.1+1))/\((r2.1.2.2.1+1)<=9223372036854775807))) (some (Sum.inl (((),((),((r2.1.2.2.1+1),()))),(r2.2.1,(r2.2.2.1,()))))))))))))))else(some (Sum.inr (Sum.inl ((),()))))))
def go59_l1:ty79->Option (ty79⊕(((Unit×(Unit×Unit))×(Block×(Block×Unit)))⊕((Bool×Unit)×Unit))):=(fun r2=>(bif(decide (r2.1.2.2.1<(r2.2.1.insts.length:Int)))then(grd (okB ((0<=r2.1.2.2.1)/\(r2.1.2.2.1<(r2.2.1.insts.length:Int)))) (grd (okB ((0<=r2.1.2.2.1)/\(r2.1.2.2.1<(r2.2.2.1.insts.length:Int)))) (qaj (grd (okB ((r2.2.1.insts.getD r2.1.2.2.1.toNat qat.z).args.length<=LEN)) (some ((Sp.qlc (r2.2.1.insts.getD r2.1.2.2.1.toNat qat.z) (r2.2.2.1.insts.getD r2.1.2.2.1.toNat qat.z)),()))) (fun r3=>(bif(!r3.1)then(some (Sum.inr (Sum.inr ((false,()),()))))else(grd (okB (((-9223372036854775808)<=(r2.1.2.2.1+1))/\((r2.1.2.2.1+1)<=9223372036854775807))) (some (Sum.inl (((),((),((r2.1.2.2.1+1),()))),(r2.2.1,(r2.2.2.1,())))))))))))else(some (Sum.inr (Sum.inl (((),((),())),(r2.2.1,(r2.2.2.1,()))))))))
def go59(x0:Block)(x1:Block):(Option (Bool×Unit)):=(qaj (grd (okB (x0.params.length<=LEN)) (some ((decide (x0.params=x1.params)),()))) (fun r0=>(bif(!r0.1)then(some (false,()))else(bif(!(decide ((x0.insts.length:Int)=(x1.insts.length:Int))))then(some (false,()))else(bif(!(decide (x0.qar=x1.qar)))then(some (false,()))else(bif(!(decide (x0.qa9=x1.qa9)))then(some (false,()))else(bif(!(decide (x0.line=x1.line)))then(some (false,()))else(bif(!(decide (x0.term.kind=x1.term.kind)))then(some (false,()))else(bif(!(decide (x0.term.cond=x1.term.cond)))then(some (false,()))else(qaj (grd (okB (x0.term.qax.length<=LEN)) (some ((decide (x0.term.qax=x1.term.qax)),()))) (fun r1=>(bif(!r1.1)then(some (false,()))else(bif(!(decide ((x0.term.to.length:Int)=(x1.term.to.length:Int))))then(some (false,()))else(qaj (qap (go59_l1) (((),((),(0,()))),(x0,(x1,())))) (fun z0=>(qgu (fun z1=>(qaj (qap (go59_l2) (((),((),(0,()))),(z1.2.1,(z1.2.2.1,())))) (fun z2=>(qgu (fun z3=>(some (true,()))) (fun z3=>(some (z3.1.1,()))) z2)))) (fun z1=>(some (z1.1.1,()))) z0))))))))))))))))
theorem run59(x0:Block)(x1:Block):qdd (P:=Try.prog) [c39,c100] Try.f59 ann59 [(0,(.st 3)),(1,(.st 3))] [] .b [] (x0,(x1,())) ()=go59 x0 x1:=by kernel_rfl
theorem qxa{α:Type}{b i:Nat}{ok:α->Prop}{l:List α}{z:α}(h:All b ok l)(hi:i<l.length):ok (l.getD i z):=by
 refine h.2 _ ?_;rw[zi5,zjc hi,zjv];exact zj1 hi
def Sp.qex(x y:Block):Bool:=decide (x=y)
theorem ok98(x y:List Edge)(h:All 32 Edge.ok x):go98 x y ()=some (decide (x=y),()):=by
 have hx:=h.len;rw[qcl]at hx;unfold go98 go98_l1;by_cases hl:(x.length:Int)=y.length
 ·have h':x.length=y.length:=by omega
  have hg:∀i,i<x.length->(x.getD i Edge.z).args.length<=LEN:=fun i hi=>(qxa (z:=Edge.z) h hi).2.len;simp(maxSteps:=1000000) (disch:=((try dsimp only);omega)) only[↓gsA,gsB]
  refine qa5 (qa6 (l:=List.range x.length) (st:=fun i=>((y,(),x,((x.length:Nat):Int),(i:Int),()),())) rfl 0 (fun i=>decide (x.getD i Edge.z=y.getD i Edge.z)) (A:=.inl ((),())) (B:=.inr ((false,()),())) (fun i hi hp=>?_) (fun i hi hp=>?_) (fun _=>?_)) ?_
  ·rw[zjb]at hi;rw[qaw hi]at hp;have hgi:=hg i hi;simp only[zja,qak hgi,Sp.qps,hp];simp(maxSteps:=1000000) (disch:=((try dsimp only);omega)) only[↓gsA,gsB]
  ·rw[zjb]at hi;rw[qaw hi]at hp;have hgi:=hg i hi;simp only[zja,qak hgi,Sp.qps,hp];simp(maxSteps:=1000000) (disch:=((try dsimp only);omega)) only[↓gsA,gsB]
  ·rw[zjb];simp(maxSteps:=1000000) (disch:=((try dsimp only);omega)) only[↓gsA,gsB]
  ·rw[qki Edge.z h'];by_cases e:x=y
   ·rw[decide_eq_true e];rfl
   ·rw[decide_eq_false e];rfl
 ·have e:x≠y:=fun e=>hl (by rw[e]);rw[decide_eq_false e];simp(maxSteps:=1000000) (disch:=((try dsimp only);omega)) only[↓gsA,gsB]
theorem q86(a b:Term):a=b↔a.kind=b.kind/\a.cond=b.cond/\a.to=b.to/\a.qax=b.qax:=by cases a;cases b;simp only[Term.mk.injEq]
theorem q6v(a b:Block):a=b↔a.params=b.params/\a.insts=b.insts/\a.term=b.term/\a.qar=b.qar/\a.qa9=b.qa9/\a.line=b.line:=by cases a;cases b;simp only[Block.mk.injEq]
theorem qew{α:Type}(g:Block->α){a b:Block}(h:g a≠g b):Sp.qex a b=false:=decide_eq_false fun e=>h (by rw[e])
theorem q94(a b:Block)(h:a.ok)(hl:a.insts.length=b.insts.length):qap go59_l1 (((),(),(0:Int),()),a,b,())=some (if(List.range a.insts.length).all (fun i=>decide (a.insts.getD i qat.z=b.insts.getD i qat.z))then .inl (((),(),()),a,b,())else .inr ((false,()),())):=by
 have hx:=h.2.1.len;rw[qcl]at hx;have hg:∀i,i<a.insts.length->(a.insts.getD i qat.z).args.length<=LEN:=fun i hi=>(qxa (z:=qat.z) h.2.1 hi).2.2.1.len;unfold go59_l1;refine qa6 (l:=List.range a.insts.length) (st:=fun i=>(((),(),(i:Int),()),a,b,())) rfl 0 (fun i=>decide (a.insts.getD i qat.z=b.insts.getD i qat.z)) (fun i hi hp=>?_) (fun i hi hp=>?_) (fun _=>?_)
 ·rw[zjb]at hi;rw[qaw hi]at hp;have hgi:=hg i hi;simp only[zja,qak hgi,Sp.qlc,hp];simp(maxSteps:=1000000) (disch:=((try dsimp only);omega)) only[↓gsA,gsB]
 ·rw[zjb]at hi;rw[qaw hi]at hp;have hgi:=hg i hi;simp only[zja,qak hgi,Sp.qlc,hp];simp(maxSteps:=1000000) (disch:=((try dsimp only);omega)) only[↓gsA,gsB]
 ·rw[zjb];simp(maxSteps:=1000000) (disch:=((try dsimp only);omega)) only[↓gsA,gsB]
theorem q2q(a b:Edge):a=b↔a.block=b.block/\a.args=b.args:=by cases a;cases b;simp only[Edge.mk.injEq]
theorem q93(a b:Block)(h:a.ok)(hl:a.term.to.length=b.term.to.length):qap go59_l2 (((),(),(0:Int),()),a,b,())=some (if(List.range a.term.to.length).all (fun i=>decide (a.term.to.getD i Edge.z=b.term.to.getD i Edge.z))then .inl ((),())else .inr ((false,()),())):=by
 have hx:=h.2.2.1.2.2.1.len;rw[qcl]at hx;have hg:∀i,i<a.term.to.length->(a.term.to.getD i Edge.z).args.length<=LEN:=fun i hi=>(qxa (z:=Edge.z) h.2.2.1.2.2.1 hi).2.len;unfold go59_l2;refine qa6 (l:=List.range a.term.to.length) (st:=fun i=>(((),(),(i:Int),()),a,b,())) rfl 0 (fun i=>decide (a.term.to.getD i Edge.z=b.term.to.getD i Edge.z)) (fun i hi hp=>?_) (fun i hi hp=>?_) (fun _=>?_)
 ·rw[zjb]at hi;rw[qaw hi]at hp;have hgi:=hg i hi;have hp:=(q2q _ _).1 (of_decide_eq_true hp);simp only[zja,qak hgi,decide_eq_true hp.1,decide_eq_true hp.2];simp(maxSteps:=1000000) (disch:=((try dsimp only);omega)) only[↓gsA,gsB]
 ·rw[zjb]at hi;rw[qaw hi]at hp;have hgi:=hg i hi;have hp:¬ (_/\_):=fun e=>of_decide_eq_false hp ((q2q _ _).2 e);simp only[zja,qak hgi];by_cases hb:(a.term.to.getD i Edge.z).block=(b.term.to.getD i Edge.z).block
  ·have ha:¬ (a.term.to.getD i Edge.z).args=(b.term.to.getD i Edge.z).args:=fun e=>hp ⟨hb,e⟩;simp only[decide_eq_true hb,decide_eq_false ha];simp(maxSteps:=1000000) (disch:=((try dsimp only);omega)) only[↓gsA,gsB]
  ·simp only[decide_eq_false hb];simp(maxSteps:=1000000) (disch:=((try dsimp only);omega)) only[↓gsA,gsB]
 ·rw[zjb];simp(maxSteps:=1000000) (disch:=((try dsimp only);omega)) only[↓gsA,gsB]
theorem ok59(a b:Block)(h:a.ok):go59 a b=some (Sp.qex a b,()):=by
 have hp:=h.1.len;have hr:=h.2.2.1.2.2.2.len;unfold go59;rw[qak hp,qaf];by_cases e1:a.params=b.params
 ·by_cases e2:(a.insts.length:Int)=b.insts.length
  ·by_cases e3:a.qar=b.qar
   ·by_cases e4:a.qa9=b.qa9
    ·by_cases e5:a.line=b.line
     ·by_cases e6:a.term.kind=b.term.kind
      ·by_cases e7:a.term.cond=b.term.cond
       ·by_cases e8:a.term.qax=b.term.qax
        ·by_cases e9:(a.term.to.length:Int)=b.term.to.length
         ·have e2':a.insts.length=b.insts.length:=by omega
          have e9':a.term.to.length=b.term.to.length:=by omega
          simp only[decide_eq_true e1,decide_eq_true e2,decide_eq_true e3,decide_eq_true e4,decide_eq_true e5,decide_eq_true e6,decide_eq_true e7,decide_eq_true e8,decide_eq_true e9,zju,cond_false,qak hr,qaf,q94 a b h e2',qki qat.z e2'];by_cases ei:a.insts=b.insts
          ·simp only[decide_eq_true ei,if_true,qdb,q93 a b h e9',qki Edge.z e9',qaf];by_cases et:a.term.to=b.term.to
           ·have:Sp.qex a b=true:=decide_eq_true ((q6v a b).2 ⟨e1,ei,(q86 _ _).2 ⟨e6,e7,et,e8⟩,e3,e4,e5⟩);rw[this];simp only[decide_eq_true et,if_true,qdb]
           ·rw[qew (fun x=>x.term.to) et];simp only[decide_eq_false et,zjw,if_false,qfc]
          ·rw[qew (fun x=>x.insts) ei];simp only[decide_eq_false ei,zjw,if_false,qfc]
         ·rw[qew (fun x=>(x.term.to.length:Int)) e9];simp only[decide_eq_true e1,decide_eq_true e2,decide_eq_true e3,decide_eq_true e4,decide_eq_true e5,decide_eq_true e6,decide_eq_true e7,decide_eq_true e8,decide_eq_false e9,zju,zj4,cond_false,cond_true,qak hr,qaf]
        ·rw[qew (fun x=>x.term.qax) e8];simp only[decide_eq_true e1,decide_eq_true e2,decide_eq_true e3,decide_eq_true e4,decide_eq_true e5,decide_eq_true e6,decide_eq_true e7,decide_eq_false e8,zju,zj4,cond_false,cond_true,qak hr,qaf]
       ·rw[qew (fun x=>x.term.cond) e7];simp only[decide_eq_true e1,decide_eq_true e2,decide_eq_true e3,decide_eq_true e4,decide_eq_true e5,decide_eq_true e6,decide_eq_false e7,zju,zj4,cond_false,cond_true]
      ·rw[qew (fun x=>x.term.kind) e6];simp only[decide_eq_true e1,decide_eq_true e2,decide_eq_true e3,decide_eq_true e4,decide_eq_true e5,decide_eq_false e6,zju,zj4,cond_false,cond_true]
     ·rw[qew (fun x=>x.line) e5];simp only[decide_eq_true e1,decide_eq_true e2,decide_eq_true e3,decide_eq_true e4,decide_eq_false e5,zju,zj4,cond_false,cond_true]
    ·rw[qew (fun x=>x.qa9) e4];simp only[decide_eq_true e1,decide_eq_true e2,decide_eq_true e3,decide_eq_false e4,zju,zj4,cond_false,cond_true]
   ·rw[qew (fun x=>x.qar) e3];simp only[decide_eq_true e1,decide_eq_true e2,decide_eq_false e3,zju,zj4,cond_false,cond_true]
  ·rw[qew (fun x=>(x.insts.length:Int)) e2];simp only[decide_eq_true e1,decide_eq_false e2,zju,zj4,cond_false,cond_true]
 ·rw[qew (fun x=>x.params) e1];simp only[decide_eq_false e1,zj4,cond_true]
def c59:Ctr Try.prog:=qbl 59 Try.f59 Try.func59 [c39,c100] ann59 [(0,(.st 3)),(1,(.st 3))] [] .b [] (fun x _=>grd (okB (Block.ok x.1)) (some (Sp.qex x.1 x.2.1,()))) (fun x _ r h=>FO (run59 x.1 x.2.1) (ok59 x.1 x.2.1) h)
end
end Go.Abs
namespace Go.Abs
open Go Go.Proofs
noncomputable section
def Sp.qi6(x y:Fn):Bool:=decide (x=y)
theorem zek(a b:Fn):Sp.qi6 a b=(decide (a.name=b.name)&&(decide (a.qaa=b.qaa)&&(decide (a.qag=b.qag)&&(decide (a.streams=b.streams)&&(decide (a.qax=b.qax)&&decide (a.blocks=b.blocks)))))):=by
 unfold Sp.qi6;rw[Bool.eq_iff_iff];simp only[zi4,decide_eq_true_eq];cases a;cases b;simp only[Fn.mk.injEq]
def ann24:Ann:=(.seq .o (.join sh101 (.seq .o (.cond (.seq .o .o) .o)) (.join sh101 (.seq .o (.block (.loop sh102 [((.exit 0),sh101),(.ret,sh99)] (.join sh102 (.seq .o (.cond .o .o)) (.join sh102 (.block (.seq .o (.cond (.seq .o .o) .o))) .o))))) (.join sh101 (.seq .o (.block (.loop sh103 [((.exit 2),sh101),(.ret,sh99)] (.join sh103 (.seq .o (.cond .o .o)) (.join sh103 (.block (.seq .o (.cond (.seq .o .o) .o))) .o))))) (.join ⟨[],[]⟩ (.seq .o (.block (.loop sh104 [((.exit 4),⟨[],[]⟩),(.ret,sh99)] (.join sh104 (.seq .o (.cond .o .o)) (.join sh104 (.block (.seq .o (.cond (.seq .o .o) .o))) .o))))) (.seq .o .o))))))
def go24_l3:ty76->Option (ty76⊕((Unit×Unit)⊕((Bool×Unit)×Unit))):=(fun r2=>(bif(decide (r2.1.2.2.1<(r2.2.1.blocks.length:Int)))then(grd (okB ((0<=r2.1.2.2.1)/\(r2.1.2.2.1<(r2.2.1.blocks.length:Int)))) (grd (okB ((0<=r2.1.2.2.1)/\(r2.1.2.2.1<(r2.2.2.1.blocks.length:Int)))) (qaj (grd (okB (Block.ok (r2.2.1.blocks.getD r2.1.2.2.1.toNat Block.z))) (some ((Sp.qex (r2.2.1.blocks.getD r2.1.2.2.1.toNat Block.z) (r2.2.2.1.blocks.getD r2.1.2.2.1.toNat Block.z)),()))) (fun r3=>(bif(!r3.1)then(some (Sum.inr (Sum.inr ((false,()),()))))else(grd (okB (((-9223372036854775808)<=(r2.1.2.2.1+1))/\((r2.1.2.2.1+1)<=9223372036854775807))) (some (Sum.inl (((),((),((r2.1.2.2.1+1),()))),(r2.2.1,(r2.2.2.1,())))))))))))else(some (Sum.inr (Sum.inl ((),()))))))
def go24_l2:ty76->Option ty82:=(fun r2=>(bif(decide (r2.1.2.2.1<(r2.2.1.streams.length:Int)))then(grd (okB ((0<=r2.1.2.2.1)/\(r2.1.2.2.1<(r2.2.1.streams.length:Int)))) (grd (okB ((0<=r2.1.2.2.1)/\(r2.1.2.2.1<(r2.2.2.1.streams.length:Int)))) (bif(bif true then(!(((ByteArray.toList (r2.2.1.streams.getD r2.1.2.2.1.toNat qbd.z).name)==(ByteArray.toList (r2.2.2.1.streams.getD r2.1.2.2.1.toNat qbd.z).name))&&((decide ((r2.2.1.streams.getD r2.1.2.2.1.toNat qbd.z).width=(r2.2.2.1.streams.getD r2.1.2.2.1.toNat qbd.z).width))&&((r2.2.1.streams.getD r2.1.2.2.1.toNat qbd.z).out==(r2.2.2.1.streams.getD r2.1.2.2.1.toNat qbd.z).out))))else(((ByteArray.toList (r2.2.1.streams.getD r2.1.2.2.1.toNat qbd.z).name)==(ByteArray.toList (r2.2.2.1.streams.getD r2.1.2.2.1.toNat qbd.z).name))&&((decide ((r2.2.1.streams.getD r2.1.2.2.1.toNat qbd.z).width=(r2.2.2.1.streams.getD r2.1.2.2.1.toNat qbd.z).width))&&((r2.2.1.streams.getD r2.1.2.2.1.toNat qbd.z).out==(r2.2.2.1.streams.getD r2.1.2.2.1.toNat qbd.z).out))))then(some (Sum.inr (Sum.inr ((false,()),()))))else(grd (okB (((-9223372036854775808)<=(r2.1.2.2.1+1))/\((r2.1.2.2.1+1)<=9223372036854775807))) (some (Sum.inl (((),((),((r2.1.2.2.1+1),()))),(r2.2.1,(r2.2.2.1,())))))))))else(some (Sum.inr (Sum.inl (((),((),())),(r2.2.1,(r2.2.2.1,()))))))))
def go24_l1:ty76->Option ty82:=(fun r2=>(bif(decide (r2.1.2.2.1<(r2.2.1.qag.length:Int)))then(grd (okB ((0<=r2.1.2.2.1)/\(r2.1.2.2.1<(r2.2.1.qag.length:Int)))) (grd (okB ((0<=r2.1.2.2.1)/\(r2.1.2.2.1<(r2.2.2.1.qag.length:Int)))) (bif(bif true then(!(((ByteArray.toList (r2.2.1.qag.getD r2.1.2.2.1.toNat Arr.z).name)==(ByteArray.toList (r2.2.2.1.qag.getD r2.1.2.2.1.toNat Arr.z).name))&&((decide ((r2.2.1.qag.getD r2.1.2.2.1.toNat Arr.z).width=(r2.2.2.1.qag.getD r2.1.2.2.1.toNat Arr.z).width))&&((decide ((r2.2.1.qag.getD r2.1.2.2.1.toNat Arr.z).len=(r2.2.2.1.qag.getD r2.1.2.2.1.toNat Arr.z).len))&&((decide ((r2.2.1.qag.getD r2.1.2.2.1.toNat Arr.z).kind=(r2.2.2.1.qag.getD r2.1.2.2.1.toNat Arr.z).kind))&&(decide ((r2.2.1.qag.getD r2.1.2.2.1.toNat Arr.z).factor=(r2.2.2.1.qag.getD r2.1.2.2.1.toNat Arr.z).factor)))))))else(((ByteArray.toList (r2.2.1.qag.getD r2.1.2.2.1.toNat Arr.z).name)==(ByteArray.toList (r2.2.2.1.qag.getD r2.1.2.2.1.toNat Arr.z).name))&&((decide ((r2.2.1.qag.getD r2.1.2.2.1.toNat Arr.z).width=(r2.2.2.1.qag.getD r2.1.2.2.1.toNat Arr.z).width))&&((decide ((r2.2.1.qag.getD r2.1.2.2.1.toNat Arr.z).len=(r2.2.2.1.qag.getD r2.1.2.2.1.toNat Arr.z).len))&&((decide ((r2.2.1.qag.getD r2.1.2.2.1.toNat Arr.z).kind=(r2.2.2.1.qag.getD r2.1.2.2.1.toNat Arr.z).kind))&&(decide ((r2.2.1.qag.getD r2.1.2.2.1.toNat Arr.z).factor=(r2.2.2.1.qag.getD r2.1.2.2.1.toNat Arr.z).factor)))))))then(some (Sum.inr (Sum.inr ((false,()),()))))else(grd (okB (((-9223372036854775808)<=(r2.1.2.2.1+1))/\((r2.1.2.2.1+1)<=9223372036854775807))) (some (Sum.inl (((),((),((r2.1.2.2.1+1),()))),(r2.2.1,(r2.2.2.1,())))))))))else(some (Sum.inr (Sum.inl (((),((),())),(r2.2.1,(r2.2.2.1,()))))))))
def go24(x0:Fn)(x1:Fn):(Option (Bool×Unit)):=(bif(!((ByteArray.toList x0.name)==(ByteArray.toList x1.name)))then(some (false,()))else(qaj (grd (okB (x0.qaa.length<=LEN)) (some ((decide (x0.qaa=x1.qaa)),()))) (fun r0=>(bif(!r0.1)then(some (false,()))else(qaj (grd (okB (x0.qax.length<=LEN)) (some ((decide (x0.qax=x1.qax)),()))) (fun r1=>(bif(!r1.1)then(some (false,()))else(bif(!(decide ((x0.qag.length:Int)=(x1.qag.length:Int))))then(some (false,()))else(bif(!(decide ((x0.streams.length:Int)=(x1.streams.length:Int))))then(some (false,()))else(bif(!(decide ((x0.blocks.length:Int)=(x1.blocks.length:Int))))then(some (false,()))else(qaj (qap (go24_l1) (((),((),(0,()))),(x0,(x1,())))) (fun z0=>(qgu (fun z1=>(qaj (qap (go24_l2) (((),((),(0,()))),(z1.2.1,(z1.2.2.1,())))) (fun z2=>(qgu (fun z3=>(qaj (qap (go24_l3) (((),((),(0,()))),(z3.2.1,(z3.2.2.1,())))) (fun z4=>(qgu (fun z5=>(some (true,()))) (fun z5=>(some (z5.1.1,()))) z4)))) (fun z3=>(some (z3.1.1,()))) z2)))) (fun z1=>(some (z1.1.1,()))) z0)))))))))))))
theorem run24(x0:Fn)(x1:Fn):qdd (P:=Try.prog) [c39,c59] Try.f24 ann24 [(0,(.st 6)),(1,(.st 6))] [] .b [] (x0,(x1,())) ()=go24 x0 x1:=by kernel_rfl
theorem zab(a b:Fn)(h:a.ok)(hl:a.qag.length=b.qag.length):qap go24_l1 (((),(),(0:Int),()),a,b,())=some (if(List.range a.qag.length).all (fun i=>decide (a.qag.getD i Arr.z=b.qag.getD i Arr.z))then .inl (((),(),()),a,b,())else .inr ((false,()),())):=by
 have hx:=h.2.2.1.len;rw[qcl]at hx;unfold go24_l1;refine qa6 (l:=List.range a.qag.length) (st:=fun i=>(((),(),(i:Int),()),a,b,())) rfl 0 (fun i=>decide (a.qag.getD i Arr.z=b.qag.getD i Arr.z)) (fun i hi hp=>?_) (fun i hi hp=>?_) (fun _=>?_)
 ·rw[zjb]at hi;rw[qaw hi]at hp;simp only[zja,q3l,hp];simp(maxSteps:=1000000) (disch:=((try dsimp only);omega)) only[↓gsA,gsB]
 ·rw[zjb]at hi;rw[qaw hi]at hp;simp only[zja,q3l,hp];simp(maxSteps:=1000000) (disch:=((try dsimp only);omega)) only[↓gsA,gsB]
 ·rw[zjb];simp(maxSteps:=1000000) (disch:=((try dsimp only);omega)) only[↓gsA,gsB]
theorem zaa(a b:Fn)(h:a.ok)(hl:a.streams.length=b.streams.length):qap go24_l2 (((),(),(0:Int),()),a,b,())=some (if(List.range a.streams.length).all (fun i=>decide (a.streams.getD i qbd.z=b.streams.getD i qbd.z))then .inl (((),(),()),a,b,())else .inr ((false,()),())):=by
 have hx:=h.2.2.2.1.len;rw[qcl]at hx;unfold go24_l2;refine qa6 (l:=List.range a.streams.length) (st:=fun i=>(((),(),(i:Int),()),a,b,())) rfl 0 (fun i=>decide (a.streams.getD i qbd.z=b.streams.getD i qbd.z)) (fun i hi hp=>?_) (fun i hi hp=>?_) (fun _=>?_)
 ·rw[zjb]at hi;rw[qaw hi]at hp;simp only[zja,qve,hp];simp(maxSteps:=1000000) (disch:=((try dsimp only);omega)) only[↓gsA,gsB]
 ·rw[zjb]at hi;rw[qaw hi]at hp;simp only[zja,qve,hp];simp(maxSteps:=1000000) (disch:=((try dsimp only);omega)) only[↓gsA,gsB]
 ·rw[zjb];simp(maxSteps:=1000000) (disch:=((try dsimp only);omega)) only[↓gsA,gsB]
theorem q99(a b:Fn)(h:a.ok)(hl:a.blocks.length=b.blocks.length):qap go24_l3 (((),(),(0:Int),()),a,b,())=some (if(List.range a.blocks.length).all (fun i=>decide (a.blocks.getD i Block.z=b.blocks.getD i Block.z))then .inl ((),())else .inr ((false,()),())):=by
 have hx:=h.2.2.2.2.2.len;rw[qcl]at hx;have hg:∀i,i<a.blocks.length->(a.blocks.getD i Block.z).ok:=fun i hi=>qxa (z:=Block.z) h.2.2.2.2.2 hi;unfold go24_l3;refine qa6 (l:=List.range a.blocks.length) (st:=fun i=>(((),(),(i:Int),()),a,b,())) rfl 0 (fun i=>decide (a.blocks.getD i Block.z=b.blocks.getD i Block.z)) (fun i hi hp=>?_) (fun i hi hp=>?_) (fun _=>?_)
 ·rw[zjb]at hi;rw[qaw hi]at hp;simp only[zja,qak (hg i hi),Sp.qex,hp];simp(maxSteps:=1000000) (disch:=((try dsimp only);omega)) only[↓gsA,gsB]
 ·rw[zjb]at hi;rw[qaw hi]at hp;simp only[zja,qak (hg i hi),Sp.qex,hp];simp(maxSteps:=1000000) (disch:=((try dsimp only);omega)) only[↓gsA,gsB]
 ·rw[zjb];simp(maxSteps:=1000000) (disch:=((try dsimp only);omega)) only[↓gsA,gsB]
theorem qqs{α:Type}(g:Fn->α){a b:Fn}(h:g a≠g b):Sp.qi6 a b=false:=decide_eq_false fun e=>h (by rw[e])
theorem ok24(a b:Fn)(h:a.ok):go24 a b=some (Sp.qi6 a b,()):=by
 have h1:=h.2.1.len;have h4:=h.2.2.2.2.1.len;unfold go24;by_cases e1:a.name=b.name
 rotate_left
 ·rw[qqs (fun x=>x.name) e1];simp only[bytes_beq,decide_eq_false e1,qak h1,qak h4,qaf,zju,zj4,cond_false,cond_true]
 by_cases e2:a.qaa=b.qaa
 rotate_left
 ·rw[qqs (fun x=>x.qaa) e2];simp only[bytes_beq,decide_eq_true e1,decide_eq_false e2,qak h1,qak h4,qaf,zju,zj4,cond_false,cond_true]
 by_cases e3:a.qax=b.qax
 rotate_left
 ·rw[qqs (fun x=>x.qax) e3];simp only[bytes_beq,decide_eq_true e1,decide_eq_true e2,decide_eq_false e3,qak h1,qak h4,qaf,zju,zj4,cond_false,cond_true]
 by_cases e4:(a.qag.length:Int)=b.qag.length
 rotate_left
 ·rw[qqs (fun x=>(x.qag.length:Int)) e4];simp only[bytes_beq,decide_eq_true e1,decide_eq_true e2,decide_eq_true e3,decide_eq_false e4,qak h1,qak h4,qaf,zju,zj4,cond_false,cond_true]
 by_cases e5:(a.streams.length:Int)=b.streams.length
 rotate_left
 ·rw[qqs (fun x=>(x.streams.length:Int)) e5];simp only[bytes_beq,decide_eq_true e1,decide_eq_true e2,decide_eq_true e3,decide_eq_true e4,decide_eq_false e5,qak h1,qak h4,qaf,zju,zj4,cond_false,cond_true]
 by_cases e6:(a.blocks.length:Int)=b.blocks.length
 rotate_left
 ·rw[qqs (fun x=>(x.blocks.length:Int)) e6];simp only[bytes_beq,decide_eq_true e1,decide_eq_true e2,decide_eq_true e3,decide_eq_true e4,decide_eq_true e5,decide_eq_false e6,qak h1,qak h4,qaf,zju,zj4,cond_false,cond_true]
 have f4:a.qag.length=b.qag.length:=by omega
 have f5:a.streams.length=b.streams.length:=by omega
 have f6:a.blocks.length=b.blocks.length:=by omega
 simp only[bytes_beq,decide_eq_true e1,decide_eq_true e2,decide_eq_true e3,decide_eq_true e4,decide_eq_true e5,decide_eq_true e6,qak h1,qak h4,qaf,zju,cond_false,zab a b h f4,qki Arr.z f4];by_cases g4:a.qag=b.qag
 rotate_left
 ·rw[qqs (fun x=>x.qag) g4];simp only[decide_eq_false g4,zjw,if_false,qfc]
 simp only[decide_eq_true g4,if_true,qdb,zaa a b h f5,qki qbd.z f5,qaf];by_cases g5:a.streams=b.streams
 rotate_left
 ·rw[qqs (fun x=>x.streams) g5];simp only[decide_eq_false g5,zjw,if_false,qfc]
 simp only[decide_eq_true g5,if_true,qdb,q99 a b h f6,qki Block.z f6,qaf];by_cases g6:a.blocks=b.blocks
 rotate_left
 ·rw[qqs (fun x=>x.blocks) g6];simp only[decide_eq_false g6,zjw,if_false,qfc]
 have:Sp.qi6 a b=true:=by
  rw[zek];simp only[decide_eq_true e1,decide_eq_true e2,decide_eq_true e3,decide_eq_true g4,decide_eq_true g5,decide_eq_true g6,zjq]
 rw[this];simp only[decide_eq_true g6,if_true,qdb]
def c24:Ctr Try.prog:=qbl 24 Try.f24 Try.func24 [c39,c59] ann24 [(0,(.st 6)),(1,(.st 6))] [] .b [] (fun x _=>grd (okB (Fn.ok x.1)) (some (Sp.qi6 x.1 x.2.1,()))) (fun x _ r h=>FO (run24 x.1 x.2.1) (ok24 x.1 x.2.1) h)
end
end Go.Abs
namespace Go.Abs
open Go Go.Proofs
noncomputable section
section
variable (x0:Fn) (n1 n2:ByteArray) (w:List Int) (a:List Arr) (s:List qbd) (r:List Int) (B:List qab) (o1:List Int) (o2:List Arr) (o3:List qbd) (o4:List Int) (o5:List qab)
variable (i:Nat) (hi:i<B.length) (hb:B.length<=281474976710656)
include hi hb
end
theorem qsz(b:Block):(Sp.qct b).dat=b:=by
 obtain⟨ps,is,⟨kd,cd,to,rt⟩,pi,un,li⟩:=b;have h1:∀l:List qat,(l.map Sp.qc7).map qai.dat=l:=fun l=>by
  rw[zkj]
  conv=>rhs;rw[<- List.map_id l]
  refine zj2 fun x _=>?_;simp[Sp.qc7,qai.dat,Ow.dat]
 have h2:∀l:List Edge,(l.map Sp.qcm).map qam.dat=l:=fun l=>by
  rw[zkj]
  conv=>rhs;rw[<- List.map_id l]
  refine zj2 fun x _=>?_;simp[Sp.qcm,qam.dat,Ow.dat]
 simp only[Sp.qct,qab.dat,qas.dat,Ow.dat,List.map_id',h1,h2]
theorem qya(l:List Block):(l.map Sp.qct).map qab.dat=l:=by
 rw[zkj]
 conv=>rhs;rw[<- List.map_id l]
 exact zj2 fun x _=>qsz x
theorem qtw{α β:Type}(f:α->β)(l:List α){r:Nat}(h:r<l.length)(z:β)(z0:α):(l.map f).getD r z=f (l.getD r z0):=by simp[zi5,h]
theorem qlq(l:List Int):LV.ffP ⟨3,.int .i64,l⟩:=qqv rfl
theorem q2j(l:List qat):LV.ffP ⟨46,.st 8,l.map Sp.qc7⟩:=LV.q2i fun r hr c=>by
 have hr:r<l.length:=by simpa using hr
 have e:LV.row ⟨46,.st 8,l.map Sp.qc7⟩ r=Sp.qc7 (l.getD r qat.z):=qtw _ _ hr _ _;rw[e];refine⟨fun hc u hu len=>?_,fun t e l h=>?_⟩
 ·have hc:c<5:=hc
  match c,hc with
  |0,_|1,_=>injection hu with hu;subst hu;simp only[toV];trivial
  |2,_=>cases hu
  |3,_|4,_=>injection hu with hu;subst hu;simp only[toV];trivial
 ·match c,h with
  |2,h=>injection h with h1 h2 h3;subst h1;subst h2;obtain rfl:=eq_of_heq h3;exact qlq _
  |3,h|4,h=>cases h
  |_+5,h=>cases h
theorem q2k(l:List Edge):LV.ffP ⟨51,.st 9,l.map Sp.qcm⟩:=LV.q2i fun r hr c=>by
 have hr:r<l.length:=by simpa using hr
 have e:LV.row ⟨51,.st 9,l.map Sp.qcm⟩ r=Sp.qcm (l.getD r Edge.z):=qtw _ _ hr _ _;rw[e];refine⟨fun hc u hu len=>?_,fun t e l h=>?_⟩
 ·have hc:c<2:=hc
  match c,hc with
  |0,_=>injection hu with hu;subst hu;simp only[toV];trivial
  |1,_=>cases hu
 ·match c,h with
  |1,h=>injection h with h1 h2 h3;subst h1;subst h2;obtain rfl:=eq_of_heq h3;exact qlq _
theorem qx6(l:List Block):LV.ffP ⟨41,.st 11,l.map Sp.qct⟩:=LV.q2i fun r hr c=>by
 have hr:r<l.length:=by simpa using hr
 have e:LV.row ⟨41,.st 11,l.map Sp.qct⟩ r=Sp.qct (l.getD r Block.z):=qtw _ _ hr _ _;rw[e];refine⟨fun hc u hu len=>?_,fun t e l h=>?_⟩
 ·have hc:c<9:=hc
  match c,hc with
  |0,_|1,_=>cases hu
  |2,_|3,_=>injection hu with hu;subst hu;simp only[toV];trivial
  |4,_|5,_=>cases hu
  |6,_|7,_|8,_=>injection hu with hu;subst hu;simp only[toV];trivial
 ·match c,h with
  |0,h=>injection h with h1 h2 h3;subst h1;subst h2;obtain rfl:=eq_of_heq h3;exact qlq _
  |1,h=>injection h with h1 h2 h3;subst h1;subst h2;obtain rfl:=eq_of_heq h3;exact q2j _
  |4,h=>injection h with h1 h2 h3;subst h1;subst h2;obtain rfl:=eq_of_heq h3;exact q2k _
  |5,h=>injection h with h1 h2 h3;subst h1;subst h2;obtain rfl:=eq_of_heq h3;exact qlq _
  |6,h|7,h|8,h=>cases h
  |_+9,h=>cases h
theorem qtm(f:Fn):Sp.qi6 f f=true:=decide_eq_true rfl
end
end Go.Abs
namespace Go.Abs
open Go Go.Proofs
noncomputable section
abbrev T0:=F67×(Fn×((qb1->Option Int)×((Unit×Unit)×(List qac×(List Int×(List Arr×(List qbd×(List Int×(List qac×(List Int×Unit))))))))))
def H0(K:K26)(w:List Int):T0:=(f67 K.nm,(K.z,(K.m,(((),()),(K.out,(K.W,(K.a,(K.t,(K.rt,(K.bl,(w,())))))))))))
abbrev U5:=Unit×(Unit×(Unit×(Unit×(Unit×Unit))))
theorem zeq(K:K26)(n:Nat)(s:RS):go26_l1 (Y1 n n,H1 K s)=some (.inr ((((),((),((),((),((),()))))):U5),H0 K s.2)):=by
 unfold go26_l1;show(bif decide ((n:Int)<(n:Int))then _ else _)=_;rw[decide_eq_false (show ¬ (n:Int)<(n:Int)by omega),cond_false];rfl
def blS(f:Fn)(o:List Int):List qac:=(List.range f.blocks.length).map fun(j:Nat)=>if o.any (fun y=>decide (y=(j:Int)))=true then qqr (f.blocks.getD j Block.z)else qn2 (f.blocks.getD j Block.z)
theorem qux(f:Fn)(o:List Int):(blS f o).length=f.blocks.length:=by simp[blS]
theorem za4(f:Fn)(o:List Int)(k:Nat)(h:k<f.blocks.length)(hn:o.any (fun y=>decide (y=(k:Int)))=false)(z:qac):(blS f o).getD k z=qn2 (f.blocks.getD k Block.z):=by
 have h2:k<(List.range f.blocks.length).length:=by simpa using h
 simp only[blS,zi5,zkc,zjc h2,zk0,zko,zjv,hn,zjw,if_false]
theorem za2(f:Fn)(o:List Int)(k:Nat)(h:k<f.blocks.length):blS f (o++[(k:Int)])=(blS f o).set k (qqr (f.blocks.getD k Block.z)):=by
 refine zkv (by simp[blS]) fun i h2 h3=>?_;simp only[blS,List.getElem_set,List.getElem_map,zk0,List.any_append,List.any_cons,List.any_nil,Bool.or_false];by_cases e:k=i
 ·subst e;simp
 ·rw[if_neg e,decide_eq_false (show ¬ (k:Int)=(i:Int)by omega),Bool.or_false]
theorem q46{α:Type}(l:List α)(k:Nat)(h:k<l.length)(z:α):l=l.take k++l.getD k z::l.drop (k+1):=by
 have:=List.set_eq_take_append_cons_drop (l:=l) (i:=k) (a:=l.getD k z);rw[if_pos h]at this;rw[<- this];refine zkv (by simp) fun i h1 h2=>?_;rw[List.getElem_set];split
 ·rename_i e;subst e;simp[zi5,zjc h]
 ·rfl
def q5x:List Int->Nat->(qb1->Option Int)->(qb1->Option Int)
 |[],_,m=>m
 |b::l,i,m=>q5x l (i+1) (qij m (.i b) (i:Int))
def Sp.rAt(f:Fn)(b:Int)(s:RS):Block×RS:=Sp.q0u f.qaa (f.blocks.getD b.toNat Block.z) s
theorem qwf(f:Fn)(z:Fn)(hW:f.qaa.length<=100000)(hb:∀i,i<f.blocks.length->SmB (f.blocks.getD i Block.z))(ord:List Int)(hn:ord.length<=100000):∀(l2 l1:List Int) (m:qb1->Option Int) (out:List qac) (s:RS),ord=l1++l2->(∀b∈l2,0<=b/\b<f.blocks.length)->l2.Nodup->(∀b∈l2,b∉l1)->qh5 f.qaa s->out.length=l1.length ->
  qap go26_l1 (Y1 ord.length l1.length,H1 ⟨f.name,f.qaa,f.qag,f.streams,f.qax,z,m,out,0,0,0,0,0,ord,blS f l1⟩ s)=some ((((),((),((),((),((),()))))):U5),H0 ⟨f.name,f.qaa,f.qag,f.streams,f.qax,z,q5x l2 l1.length m,out++(qgr (Sp.rAt f) l2 s).1.map qn2,0,0,0,0,0,ord,blS f ord⟩ (qgr (Sp.rAt f) l2 s).2.2)
 |[],l1,m,out,s,ho,hr,hd,hx,hI,hol=>by
  rw[zkd]at ho;subst ho;rw[qbt,zeq];simp only[qgr,q5x,List.map_nil,zkd]
 |b::l2,l1,m,out,s,ho,hr,hd,hx,hI,hol=>by
  obtain⟨hb0,hb1⟩:=hr b (zjd ..);obtain⟨k,rfl⟩:=zk3 hb0;have hk:k<f.blocks.length:=by omega
  have hnot:=hx _ (zjd ..);have hany:l1.any (fun y=>decide (y=(k:Int)))=false:=by
   cases h:l1.any (fun y=>decide (y=(k:Int)))with
   |false=>rfl
   |true=>
    obtain⟨y,h1,h2⟩:=List.any_eq_true.1 h;have:=of_decide_eq_true h2;subst this;exact absurd h1 hnot
  have hlen:l1.length+(l2.length+1)=ord.length:=by rw[ho];simp
  have hbl:=q46 (blS f l1) k (by rw[qux];exact hk) (qn2 Block.z)
  rw[za4 f l1 k hk hany]at hbl;have htk:((blS f l1).take k).length=k:=by rw[List.length_take,qux];omega
  have st:=zdj ⟨f.name,f.qaa,f.qag,f.streams,f.qax,z,m,out,0,0,0,0,0,ord,blS f l1⟩ hW (by show out.length<=100000;omega) (f.blocks.getD k Block.z) (hb k hk) ((blS f l1).take k) ((blS f l1).drop (k+1)) hbl ord.length l1.length (by omega) hn (by
   show ord.getD l1.length 0=(((blS f l1).take k).length:Int)
   rw[htk,ho];exact qd0 _ _ _ _) rfl s hI
  rw[htk]at st;have hset:(blS f l1).take k++qqr (f.blocks.getD k Block.z)::(blS f l1).drop (k+1)=blS f (l1++[(k:Int)]):=by
   rw[za2 f l1 k hk,List.set_eq_take_append_cons_drop,if_pos (by rw[qux];exact hk)]
  rw[hset]at st;have ih:=qwf f z hW hb ord hn l2 (l1++[(k:Int)]) (qij m (.i (k:Int)) (l1.length:Int)) (out++[qn2 (Sp.q0u f.qaa (f.blocks.getD k Block.z) s).1]) (Sp.q0u f.qaa (f.blocks.getD k Block.z) s).2 (by rw[ho];simp) (fun b hb=>hr b (zjk _ hb)) (zj5.1 hd).2 (fun b hb hc=>by
   rcases zjp.1 hc with h|h
   ·exact hx b (zjk _ hb) h
   ·rw[zki]at h;subst h;exact(zj5.1 hd).1 hb) (q5j _ _ _ hI) (by simp[hol])
  rw[qbt,st];simp only[zjh,zi9,zji,zjf,zkr,zk7]at ih;simp only[qgr,q5x,zjl,Sp.rAt,zja];exact ih
def Y5(a b c d e:Int):Unit×(Unit×(Unit×(Unit×(Unit×(Int×(Int×(Int×(Int×(Int×Unit))))))))):=((),((),((),((),((),(a,(b,(c,(d,(e,()))))))))))
def Y6(a b:Int):Unit×(Unit×(Unit×(Unit×(Unit×(Int×(Int×Unit)))))):=((),((),((),((),((),(a,(b,())))))))
def Sp.rGo(m:qb1->Option Int)(e:Edge):Edge:=⟨(m (.i e.block)).getD 0,e.args⟩
def Sp.zbs(m:qb1->Option Int)(b:Block):Block:=⟨b.params,b.insts,⟨b.term.kind,b.term.cond,b.term.to.map (Sp.rGo m),b.term.qax⟩,b.qar,b.qa9,b.line⟩
theorem qwb(K:K26)(o1 o2:List qac)(ps:List Int)(is:List qai)(kd cd pp un ln:Int)(rs:List Int)(n:Nat)(w:List Int)(ho1:o1.length<=100000):∀(l2:List Edge) (l1:List qam),l1.length+l2.length<=100000 ->
  qap go26_l5 (Y5 o1.length n o1.length ((l1.length+l2.length:Nat):Int) l1.length,H0 { K with out:=o1++⟨.own ps,.own is,⟨kd,cd,.own (l1++l2.map Sp.qcm),.own rs⟩,pp,un,ln⟩::o2 } w)=some (Y6 n o1.length,H0 { K with out:=o1++⟨.own ps,.own is,⟨kd,cd,.own (l1++(l2.map (Sp.rGo K.m)).map Sp.qcm),.own rs⟩,pp,un,ln⟩::o2 } w)
 |[],l1,hl=>by
  rw[qbt];unfold go26_l5 H0 Y5 Y6;simp only[zji,zka,List.map_nil];simp(maxSteps:=1000000) (disch:=((try dsimp only);omega)) only[↓gsA,gsB]
 |v::l2,l1,hl=>by
  simp only[zi9]at hl;have ih:=qwb K o1 o2 ps is kd cd pp un ln rs n w ho1 l2 (l1++[Sp.qcm (Sp.rGo K.m v)]) (by simp only[zjh,zi9,zji];omega)
  rw[qbt];have step:go26_l5 (Y5 o1.length n o1.length ((l1.length+(v::l2).length:Nat):Int) l1.length,H0 { K with out:=o1++⟨.own ps,.own is,⟨kd,cd,.own (l1++(v::l2).map Sp.qcm),.own rs⟩,pp,un,ln⟩::o2 } w)=some (.inl (Y5 o1.length n o1.length ((l1.length+(v::l2).length:Nat):Int) ((l1.length+1:Nat):Int),H0 { K with out:=o1++⟨.own ps,.own is,⟨kd,cd,.own (l1++Sp.qcm (Sp.rGo K.m v)::l2.map Sp.qcm),.own rs⟩,pp,un,ln⟩::o2 } w)):=by
   unfold go26_l5;simp only[H0,Y5,f67,zjl,zjh,zi9,zje,zja,qd0,qfl,Sp.qjt,qaf];simp(maxSteps:=1000000) (disch:=((try dsimp only);omega)) only[↓gsA,gsB]
   rfl
  rw[step];simp only[zjh,zi9,zji,zkr,zk7,zjf]at ih;simp only[zjl,zi9];rw[show l1.length+(l2.length+1)=l1.length+1+l2.length by omega];exact ih
abbrev TE:=F67×(Fn×((Unit×Unit)×(List qac×(List Int×(List Arr×(List qbd×(List Int×(List qac×(List Int×Unit)))))))))
def HE(K:K26)(w:List Int):TE:=(f67 K.nm,(K.z,(((),()),(K.out,(K.W,(K.a,(K.t,(K.rt,(K.bl,(w,()))))))))))
theorem qwc(K:K26)(w:List Int):∀(l2:List Block) (l1:List qac),l1.length+l2.length<=100000->(∀b∈l2,b.term.to.length<=100000) ->
  qap go26_l4 (Y6 ((l1.length+l2.length:Nat):Int) l1.length,H0 { K with out:=l1++l2.map qn2 } w)=some ((((),((),((),((),())))):Unit×(Unit×(Unit×(Unit×Unit)))),HE { K with out:=l1++(l2.map (Sp.zbs K.m)).map qn2 } w)
 |[],l1,hl,hb=>by
  rw[qbt];unfold go26_l4 H0 HE Y6;simp only[zji,zka,List.map_nil];simp(maxSteps:=1000000) (disch:=((try dsimp only);omega)) only[↓gsA,gsB]
 |v::l2,l1,hl,hb=>by
  simp only[zi9]at hl;have ih:=qwc K w l2 (l1++[qn2 (Sp.zbs K.m v)]) (by simp only[zjh,zi9,zji];omega) (fun b h=>hb b (zjk _ h))
  have k:=qwb K l1 (l2.map qn2) v.params (v.insts.map Sp.qc7) v.term.kind v.term.cond v.qar v.qa9 v.line v.term.qax (l1.length+(v::l2).length) w (by omega) v.term.to [] (by simpa using hb v (zjd ..));have k0:((0:Nat):Int)=0:=rfl;simp only[zji,zjf,zj8,k0]at k;rw[qbt];have step:go26_l4 (Y6 ((l1.length+(v::l2).length:Nat):Int) l1.length,H0 { K with out:=l1++(v::l2).map qn2 } w)=some (.inl (Y6 ((l1.length+(v::l2).length:Nat):Int) ((l1.length+1:Nat):Int),H0 { K with out:=l1++qn2 (Sp.zbs K.m v)::l2.map qn2 } w)):=by
   unfold Y5 Y6 H0 f67 at k;unfold go26_l4;show(bif decide ((l1.length:Int)<((l1.length+(v::l2).length:Nat):Int))then _ else _)=_;rw[decide_eq_true (show(l1.length:Int)<((l1.length+(v::l2).length:Nat):Int)by simp only[zi9];omega),cond_true]
   simp only[H0,Y6,f67,qn2,zjl,zjh,zi9,zje,zja,qd0,qfl,Sp.qjt,qaf]at k ⊢;simp(maxSteps:=1000000) (disch:=((try dsimp only);omega)) only[↓gsA,gsB]
   rw[show(((l1.length+(l2.length+1):Nat)):Int)=(l1.length:Int)+((l2.length:Int)+1)by omega]at k;rw[k];simp(maxSteps:=1000000) (disch:=((try dsimp only);omega)) only[↓gsA,gsB]
   rfl
  rw[step];simp only[zjh,zi9,zji,zkr,zk7,zjf]at ih;simp only[zjl,zi9];rw[show l1.length+(l2.length+1)=l1.length+1+l2.length by omega];exact ih
theorem zat(b:Block):qac.dn (qn2 b)=some (Sp.qct b):=rfl
theorem qr7:∀(l:List Block),Sp.q75 qac.dn (l.map qn2)=some (l.map Sp.qct)
 |[]=>rfl
 |b::l=>by simp only[zjl,Sp.q75,zat,qr7 l]
theorem qy2(b:Block):qac.up (Sp.qct b)=qn2 b:=rfl
def Sp.q7y(f:Fn):List Block×RS:=qgr (Sp.rAt f) (Sp.order f) (fun _=>none,[])
def Sp.qig(f:Fn):Fn:=⟨f.name,(Sp.q7y f).2.2,f.qag,f.streams,f.qax,(Sp.q7y f).1.map (Sp.zbs (q5x (Sp.order f) 0 fun _=>none))⟩
structure Rn(f:Fn):Prop where
 ok:f.ok
 W:f.qaa.length<=100000
 B:f.blocks.length<=100000
 sm:∀i,i<f.blocks.length->SmB (f.blocks.getD i Block.z)
 rng:∀b∈Sp.order f,0<=b/\b<f.blocks.length
 nd:(Sp.order f).Nodup
 len:(Sp.order f).length<=100000
theorem q17(W:List Int):free W (fun _=>none)=W.length:=by
 unfold free;have:∀n,(List.range n).countP (fun(_:Nat)=>true)=n:=fun n=>by simp[List.countP_eq_length.2]
 simp
theorem zgo(W:List Int):qh5 W (fun _=>none,[]):=by
 unfold qh5;simp[q17]
theorem za3(f:Fn):blS f []=f.blocks.map qn2:=by
 refine zkv (by simp[blS]) fun i h1 h2=>?_;have h3:i<f.blocks.length:=by simpa[blS]using h1
 simp only[blS,List.getElem_map,zk0,List.any_nil,zjw,if_false,zi5,zjc h3,zjv]
theorem q9h(f:Fn)(h:Rn f):∀b∈(Sp.q7y f).1,b.term.to.length<=100000:=by
 have key:∀(l:List Int) (s:RS),(∀b∈l,0<=b/\b<f.blocks.length)->∀b∈(qgr (Sp.rAt f) l s).1,b.term.to.length<=100000:=by
  intro l
  induction l with
  |nil=>intro s _ b hb;cases hb
  |cons v l ih=>
   intro s hv b hb;rcases zjx.1 hb with e|e
   ·subst e;have:=(h.sm v.toNat (by have:=hv v (zjd ..);omega)).2.2.1
    show((Sp.rTo _ _ _).1).length<=_;unfold Sp.rTo;rw[qik];exact this
   ·exact ih _ (fun b hb=>hv b (zjk _ hb)) b e
 exact key _ _ h.rng
theorem ok26(f:Fn)(h:Rn f):go26 f=some ((f.name,((),((),((),((),((),())))))),((Sp.qig f).qaa,(f.qag,(f.streams,(f.qax,((Sp.qig f).blocks.map Sp.qct,())))))):=by
 have e1:(Fn.mk f.name f.qaa f.qag f.streams f.qax (List.map qab.dat (List.map Sp.qct f.blocks)))=f:=by
  rw[zkj,show(qab.dat∘Sp.qct)=id from funext qsz,List.map_id]
 have k:=qwf f Fn.z h.W h.sm (Sp.order f) h.len (Sp.order f) [] (fun _=>none) [] (fun _=>none,[]) rfl h.rng h.nd (fun _ _ hc=>by cases hc) (zgo _) rfl;have k0:((0:Nat):Int)=0:=rfl;simp only[zji,zj8,k0]at k;rw[za3]at k;have hl:(Sp.q7y f).1.length=(Sp.order f).length:=qik _ _ _;have k2:=qwc ⟨f.name,f.qaa,f.qag,f.streams,f.qax,Fn.z,q5x (Sp.order f) 0 fun _=>none,[],0,0,0,0,0,Sp.order f,blS f (Sp.order f)⟩ (Sp.q7y f).2.2 (Sp.q7y f).1 [] (by rw[hl];simpa using h.len) (q9h f h)
 simp only[zji,zj8,zjf,k0]at k2;unfold Y1 H1 H0 f67 at k;unfold Y6 H0 HE f67 at k2;unfold go26;rw[qak h.ok,qaf];simp only[e1];rw[qak h.ok,qaf];simp only[zkj];rw[show(qac.up∘Sp.qct)=qn2 from funext qy2,k,qaf];simp only[zje];rw[show qgr (Sp.rAt f) (Sp.order f) (fun _=>none,[])=Sp.q7y f from rfl,k2,qaf];simp only[qr7,qaf,qlt];rfl
end
end Go.Abs
namespace Go.Abs
open Go Go.Proofs
noncomputable section
theorem ql8(f:Fn):qc4 f []=List.replicate f.blocks.length false:=by
 refine zkv (by simp[qc4]) fun i h1 h2=>?_;simp[qc4]
structure Rr(f:Fn):Prop where
 rn:Rn f
 es:zbq f
 pos:0<f.blocks.length
 rg:∀i,i<f.blocks.length->RgB f (f.blocks.getD i Block.z)
end
end Go.Abs
namespace Go.Abs
open Go Go.Proofs
noncomputable section
def c26:Ctr Try.prog:=qbl 26 Try.f26 Try.func26 [c25,c66,c67,c68] ann26 [(0,(.st 6))] [] (.agg [.s,.full 0,.full 1,.full 2,.full 3,.full 4]) [(.lst 3 (.int .i64)),(.lst 53 (.st 4)),(.lst 55 (.st 5)),(.lst 3 (.int .i64)),(.lst 41 (.st 11))]
 (fun x _=>grd (okB (Rn x.1)) (some ((x.1.name,((),((),((),((),((),())))))),((Sp.qig x.1).qaa,(x.1.qag,(x.1.streams,(x.1.qax,((Sp.qig x.1).blocks.map Sp.qct,())))))))) (fun x _ r h=>FO (run26 x.1) (fun p=>ok26 x.1 p) h)
end
end Go.Abs
namespace Go.Abs
open Go Go.Proofs
noncomputable section
def zd3(o:List (List Int))(m:Nat):Prop:=∀l,l∈o->l.length<=m
theorem zd3.getD{o:List (List Int)}{m:Nat}(h:zd3 o m)(s:Nat):(o.getD s []).length<=m:=by
 rw[zi5];by_cases hs:s<o.length
 ·rw[zjc hs];exact h _ (zj1 hs)
 ·rw[zk2 (by omega)];exact zkt _
end
end Go.Abs
namespace Go.Abs
open Go Go.Proofs
noncomputable section
def Sp.leads(f:Fn)(b s:Nat):Bool:=(f.blocks.getD b Block.z).term.to.any fun e=>decide (e.block=(s:Int))
end
end Go.Abs
namespace Go.Abs
open Go Go.Proofs
noncomputable section
theorem qr3(f:Fn):(Sp.order f).length<=f.blocks.length:=by
 have:=(qg3 f (f.blocks.length+1) 0 (List.replicate f.blocks.length false,[])).2.1;simp only[qjy,zji]at this;unfold Sp.order;omega
end
end Go.Abs
namespace Go.Abs
open Go Go.Proofs
noncomputable section
def seen(o:List Bool)(x:Nat):Prop:=o.getD x false=true
theorem zgl{o:List Bool}{x:Nat}(h:seen o x):x<o.length:=by
 unfold seen at h;rw[zi5]at h;refine Classical.byContradiction fun hn=>?_;rw[zk2 (by omega)]at h;simp at h
theorem qlb{o:List Bool}{x y:Nat}:seen (o.set y true) x↔seen o x\/(x=y/\y<o.length):=by
 unfold seen;simp only[zi5,List.getElem?_set];by_cases h:y=x
 ·subst h;rw[if_pos rfl];by_cases hl:y<o.length
  ·rw[if_pos hl];simp[hl]
  ·rw[if_neg hl,zk2 (by omega)];simp[hl]
 ·rw[if_neg h]
  constructor
  ·exact .inl
  ·rintro(h1|⟨h1,_⟩)
   ·exact h1
   ·exact absurd h1.symm h
theorem qvj{n x:Nat}:¬ seen (List.replicate n false) x:=by
 unfold seen;rw[zi5,List.getElem?_replicate]
 split<;>simp
theorem qsd{f:Fn}{b s:Nat}:Sp.leads f b s=true↔∃e∈(f.blocks.getD b Block.z).term.to,e.block=(s:Int):=by
 simp[Sp.leads,List.any_eq_true]
structure Vis(f:Fn)(s s':List Bool×List Int):Prop where
 len:s'.1.length=s.1.length
 mono:∀x,seen s.1 x->seen s'.1 x
 closed:∀x,seen s'.1 x->¬ seen s.1 x->∀y,y<s.1.length->Sp.leads f x y=true->seen s'.1 y
 out:(∀x:Nat,seen s.1 x↔(x:Int)∈s.2)->∀x:Nat,seen s'.1 x↔(x:Int)∈s'.2
 un:qck s'.1<=qck s.1
theorem Vis.refl(f:Fn)(s:List Bool×List Int):Vis f s s:=⟨rfl,fun _ h=>h,fun x h hn=>absurd h hn,fun h=>h,zi7 _⟩
theorem Vis.trans{f:Fn}{a b c:List Bool×List Int}(h:Vis f a b)(k:Vis f b c):Vis f a c:=
 ⟨k.len.trans h.len,fun x hx=>k.mono x (h.mono x hx),fun x hx hn y hy hl=>by
  by_cases hb:seen b.1 x
  ·exact k.mono y (h.closed x hb hn y hy hl)
  ·exact k.closed x hx hb y (by rw[h.len];exact hy) hl,fun ho=>k.out (h.out ho),zj6 k.un h.un⟩
theorem qwq{f:Fn}{n:Nat}(ih:∀(b:Int) (s:List Bool×List Int),qck s.1<n->Vis f s (Sp.visit f n b s)/\(0<=b->b<(s.1.length:Int)->seen (Sp.visit f n b s).1 b.toNat)) :
  ∀(l:List Edge) (s:List Bool×List Int),qck s.1<n->Vis f s (l.foldl (fun s e=>Sp.visit f n e.block s) s)/\∀e∈l,0<=e.block->e.block<(s.1.length:Int)->seen (l.foldl (fun s e=>Sp.visit f n e.block s) s).1 e.block.toNat
 |[],s,h=>⟨Vis.refl f s,fun e he=>by cases he⟩
 |a::l,s,h=>by
  obtain⟨h1,h2⟩:=ih a.block s h;obtain⟨h3,h4⟩:=qwq ih l (Sp.visit f n a.block s) (Nat.lt_of_le_of_lt h1.un h);refine⟨h1.trans h3,fun e he p1 p2=>?_⟩;rcases zjx.1 he with rfl|he
  ·exact h3.mono _ (h2 p1 p2)
  ·exact h4 e he p1 (by rw[h1.len];exact p2)
theorem qrc(f:Fn):∀(n:Nat) (b:Int) (s:List Bool×List Int),qck s.1<n->Vis f s (Sp.visit f n b s)/\(0<=b->b<(s.1.length:Int)->seen (Sp.visit f n b s).1 b.toNat)
 |0,b,s,h=>by omega
 |n+1,b,s,h=>by
  unfold Sp.visit;split
  ·rename_i hb;exact⟨Vis.refl f s,fun p1 p2=>by omega⟩
  ·rename_i hb;split
   ·rename_i hs;exact⟨Vis.refl f s,fun _ _=>hs⟩
   ·rename_i hs;have hlt:b.toNat<s.1.length:=by omega
    have hu:=qjx hlt (by simpa using hs);obtain⟨h3,h4⟩:=qwq (qrc f n) (f.blocks.getD b.toNat Block.z).term.to (s.1.set b.toNat true,s.2++[b]) (by simp only;omega)
    generalize (f.blocks.getD b.toNat Block.z).term.to.foldl (fun s e=>Sp.visit f n e.block s) (s.1.set b.toNat true,s.2++[b])=s' at h3 h4;have hb1:seen (s.1.set b.toNat true) b.toNat:=qlb.2 (.inr ⟨rfl,hlt⟩);refine⟨⟨by rw[h3.len];simp,fun x hx=>h3.mono x (qlb.2 (.inl hx)),fun x hx hn y hy hl=>?_,fun ho=>h3.out fun x=>?_,by have:=h3.un;simp only at this;omega⟩,fun _ _=>h3.mono _ hb1⟩
    ·by_cases hxb:x=b.toNat
     ·subst hxb;obtain⟨e,he,e1⟩:=qsd.1 hl;have:=h4 e he (by omega) (by simp only[List.length_set];omega)
      rwa [e1,zja]at this
     ·refine h3.closed x hx (fun hx2=>?_) y (by simpa using hy) hl;rcases qlb.1 hx2 with h5|⟨h5,_⟩
      ·exact hn h5
      ·exact hxb h5
    ·rw[qlb,zjp,ho x];simp only[zki]
     constructor
     ·rintro(h5|⟨h5,_⟩)
      ·exact .inl h5
      ·exact .inr (by omega)
     ·rintro(h5|h5)
      ·exact .inl h5
      ·exact .inr ⟨by omega,hlt⟩
end
end Go.Abs
namespace Go.Abs
open Go Go.Proofs
noncomputable section
theorem qk7{f:Fn}(h:Sp.valid f=true):∀b∈f.blocks,b.term.to.length<=2/\∀e∈b.term.to,0<=e.block/\e.block<(f.blocks.length:Int):=fun b hb=>by
 unfold Sp.valid at h;simp only[zi4,Option.isSome_iff_exists]at h;obtain⟨_,s',h⟩:=h;obtain⟨s1,s2,h⟩:=qe4 _ _ _ h b hb;unfold Sp.qcb at h;split at h
 ·split at h
  ·split at h
   ·split at h
    ·rename_i ht;unfold Sp.qdm at ht;simp only[zi4,zjm,decide_eq_true_eq]at ht;obtain⟨⟨⟨_,h1,_⟩,_⟩,h2⟩:=ht;refine⟨?_,fun e he=>?_⟩
     ·unfold Sp.qd9 at h1;split at h1
      ·omega
      ·split at h1<;>omega
     ·have:=h2 e he;unfold Sp.qc0 at this;simp only[zi4,zjo,decide_eq_false_iff_not]at this;omega
    ·cases h
   ·cases h
  ·cases h
 ·cases h
end
end Go.Abs
namespace Go.Abs
open Go Go.Proofs
noncomputable section
def ann53:Ann:=(.seq .o (.seq .o .o))
def go53(x0:Int):(Option (Bool×Unit)):=(bif(!(decide (x0=26)))then(some ((!(decide (x0=28))),()))else(some (false,())))
theorem run53(x0:Int):qdd (P:=Try.prog) [] Try.f53 ann53 [(0,(.i .i64))] [] .b [] (x0,()) ()=go53 x0:=by kernel_rfl
def qhm(p:Nat->Bool):Nat->Nat->Option Nat
 |0,_=>none
 |n+1,i=>if p i=true then some i else qhm p n (i+1)
theorem qf3{p:Nat->Bool}:∀ {n i k:Nat},qhm p n i=some k->i<=k/\k<i+n/\p k=true/\∀j,i<=j->j<k->p j=false
 |0,i,k,h=>by cases h
 |n+1,i,k,h=>by
  simp only[qhm]at h;split at h
  ·rename_i hp;injection h with h;subst h;exact⟨zi7 _,by omega,hp,fun j h1 h2=>by omega⟩
  ·rename_i hp;obtain⟨h1,h2,h3,h4⟩:=qf3 h;refine⟨by omega,by omega,h3,fun j h5 h6=>?_⟩;by_cases e:j=i
   ·subst e;simpa using hp
   ·exact h4 j (by omega) h6
theorem qkc{p:Nat->Bool}:∀ {n i:Nat},qhm p n i=none->∀j,i<=j->j<i+n->p j=false
 |0,i,h,j,h1,h2=>by omega
 |n+1,i,h,j,h1,h2=>by
  simp only[qhm]at h;split at h
  ·cases h
  ·rename_i hp;by_cases e:j=i
   ·subst e;simpa using hp
   ·exact qkc h j (by omega) (by omega)
theorem qti{D X:Type}{f:D->Option (D⊕X)}{st:Nat->D}{y0:D}(hy:y0=st 0)(n:Nat)(p:Nat->Bool)(A:X)(B:Nat->X)(h1:∀i,i<n->p i=true->f (st i)=some (.inr (B i)))(h2:∀i,i<n->p i=false->f (st i)=some (.inl (st (i+1))))
  (h3:f (st n)=some (.inr A)):qap f y0=some (qdk (qhm p n 0) B A):=by
 subst hy;have key:∀k i,i+k=n->qap f (st i)=some (qdk (qhm p k i) B A):=by
  intro k
  induction k with
  |zero=>intro i hi;rw[qbt,show i=n by omega,h3];rfl
  |succ k ih=>
   intro i hi;rw[qbt];simp only[qhm];cases hp:p i with
   |true=>rw[h1 i (by omega) hp];rfl
   |false=>rw[h2 i (by omega) hp];exact ih (i+1) (by omega)
 exact key n 0 (by omega)
def Sp.index(l:List Int)(v:Int):Int:=qdk (qhm (fun i=>decide (v=l.getD i 0)) l.length 0) (fun i=>(i:Int)) (-1)
def Sp.named(op:Int):Bool:=!decide (op=26)&&!decide (op=28)
theorem ok53(op:Int):go53 op=some (Sp.named op,()):=by
 unfold go53 Sp.named;by_cases h:op=26<;>simp[h]
def c53:Ctr Try.prog:=qbl 53 Try.f53 Try.func53 [] ann53 [(0,(.i .i64))] [] .b [] (fun x _=>some (Sp.named x.1,())) (fun x _ r h=>FE (run53 x.1) (ok53 x.1) h)
end
end Go.Abs
namespace Go.Abs
open Go Go.Proofs
noncomputable section
def Sp.qco(b:Block):List Int:=b.params++(b.insts.filter (fun x=>Sp.named x.op)).map (·.dest)
structure Marks(W:Nat)(d d':List Bool)(l:List Int):Prop where
 len:d.length=W->d'.length=W
 rng:d.length=W->∀v∈l,0<=v/\v<W
 old:d.length=W->∀v∈l,d.getD v.toNat false=false
 nd:d.length=W->l.Nodup
 mks:d.length=W->∀n,d'.getD n false=true↔d.getD n false=true\/(n:Int)∈l
theorem Marks.nil(W:Nat)(d:List Bool):Marks W d d []:=⟨fun h=>h,fun _ v h=>absurd h (by simp),fun _ v h=>absurd h (by simp),fun _=>List.nodup_nil,fun _ n=>by simp⟩
theorem Marks.one{W:Nat}{d:List Bool}{v:Int}(h1:0<=v/\v<W)(h2:d.getD v.toNat false=false):Marks W d (d.set v.toNat true) [v] where
 len h:=by simpa using h
 rng _ x hx:=by simp at hx;exact hx▸h1
 old _ x hx:=by simp at hx;exact hx▸h2
 nd _:=by simp
 mks h n:=by
  have e:(n:Int)∈[v]↔v.toNat=n:=by simp;omega
  rw[e];simp only[zi5,List.getElem?_set];by_cases hn:v.toNat=n
  ·subst hn;rw[if_pos rfl,if_pos (by omega)];simp
  ·rw[if_neg hn];simp[hn]
theorem Marks.app{W:Nat}{d d1 d2:List Bool}{l m:List Int}(h:Marks W d d1 l)(k:Marks W d1 d2 m):Marks W d d2 (l++m) where
 len e:=k.len (h.len e)
 rng e v hv:=by
  rcases zjp.1 hv with hv|hv
  ·exact h.rng e v hv
  ·exact k.rng (h.len e) v hv
 old e v hv:=by
  rcases zjp.1 hv with hv|hv
  ·exact h.old e v hv
  ·have:=k.old (h.len e) v hv;cases hd:d.getD v.toNat false with
   |false=>rfl
   |true=>rw[(h.mks e v.toNat).2 (.inl hd)]at this;cases this
 nd e:=by
  rw[zj0];refine⟨h.nd e,k.nd (h.len e),fun a ha b hb hab=>?_⟩;subst hab;have h1:=k.old (h.len e) a hb;have h2:=h.rng e a ha;rw[(h.mks e a.toNat).2 (.inr (by rw[show((a.toNat:Nat):Int)=a by omega];exact ha))]at h1
  cases h1
 mks e n:=by rw[k.mks (h.len e) n,h.mks e n,zjp,or_assoc]
theorem qov(f:Fn):∀(l:List Int) (s s':DK),qch (Sp.qcy f) l s=some s'->Marks f.qaa.length s.1 s'.1 l
 |[],s,s',h=>by injection h with h;subst h;exact .nil _ _
 |v::l,s,s',h=>by
  simp only[qch]at h;cases hg:Sp.qcy f s v with
  |none=>rw[hg]at h;cases h
  |some s1=>
   rw[hg]at h;have ih:=qov f l s1 s' h;simp only[Sp.qcy]at hg;split at hg
   ·rename_i hc;injection hg with hg;subst hg;exact Marks.app (l:=[v]) (Marks.one (within_iff.1 hc.1) hc.2) ih
   ·cases hg
theorem qeo{f:Fn}{s s':DK}{x:qat}(h:Sp.qb5 f s x=some s'):Sp.named x.op=Sp.result x.op/\(Sp.named x.op=false->x.dest=-1):=by
 simp only[Sp.qb5]at h;split at h
 ·rename_i hc;obtain⟨h1,h2,h3,h4⟩:=hc;have e:Sp.named x.op=Sp.result x.op:=by
   have:0<=Sp.arity x.op:=by omega
   simp only[Sp.named,Sp.result,this,decide_true,zjy]
  refine⟨e,fun hn=>?_⟩;rw[e]at hn;simp only[Sp.qfe,hn]at h3;simpa using h3
 ·cases h
theorem qow(f:Fn):∀(l:List qat) (s s':DK),qch (Sp.qb5 f) l s=some s'->Marks f.qaa.length s.1 s'.1 ((l.filter (fun x=>Sp.named x.op)).map (·.dest))
 |[],s,s',h=>by injection h with h;subst h;exact .nil _ _
 |x::l,s,s',h=>by
  simp only[qch]at h;cases hg:Sp.qb5 f s x with
  |none=>rw[hg]at h;cases h
  |some s1=>
   rw[hg]at h;have ih:=qow f l s1 s' h;have hn:=(qeo hg).1;simp only[Sp.qb5]at hg;split at hg
   ·rename_i hc;injection hg with hg;subst hg;cases hr:Sp.result x.op with
    |false=>
     rw[List.filter_cons_of_neg (by simp[hn,hr])];simpa[Sp.mark,hr]using ih
    |true=>
     rw[List.filter_cons_of_pos (by simp[hn,hr])];have h3:=hc.2.2.1;simp only[Sp.qfe,hr,if_true,zi4,zjo]at h3;refine Marks.app (l:=[x.dest]) (d1:=s.1.set x.dest.toNat true) (Marks.one (within_iff.1 h3.1) h3.2) ?_;simpa[Sp.mark,hr]using ih
   ·cases hg
def Block.zeu(b:Block):Prop:=∀x∈b.insts,Sp.named x.op=false->x.dest=-1
theorem qmm{f:Fn}{d d':List Bool}{b:Block}(h:Sp.qcb f d b=some d'):Marks f.qaa.length d d' (Sp.qco b)/\b.zeu:=by
 simp only[Sp.qcb]at h;split at h
 ·split at h
  ·rename_i s1 h1;split at h
   ·rename_i s2 h2;split at h
    ·injection h with h;subst h;refine⟨Marks.app (qov f _ _ _ h1) (qow f _ _ _ h2),fun x hx hn=>?_⟩;obtain⟨t1,t2,ht⟩:=qe4 _ _ _ h2 x hx;exact(qeo ht).2 hn
    ·cases h
   ·cases h
  ·cases h
 ·cases h
theorem qox(f:Fn):∀(l:List Block) (d d':List Bool),qch (Sp.qcb f) l d=some d'->Marks f.qaa.length d d' (l.flatMap Sp.qco)
 |[],d,d',h=>by injection h with h;subst h;exact .nil _ _
 |b::l,d,d',h=>by
  simp only[qch]at h;cases hg:Sp.qcb f d b with
  |none=>rw[hg]at h;cases h
  |some d1=>
   rw[hg]at h;simp only[List.flatMap_cons];exact Marks.app (qmm hg).1 (qox f l d1 d' h)
theorem qeq{f:Fn}(h:Sp.valid f=true):(f.blocks.flatMap Sp.qco).Nodup/\(∀v∈f.blocks.flatMap Sp.qco,0<=v/\v<f.qaa.length)/\∀b∈f.blocks,b.zeu:=by
 simp only[Sp.valid,zi4]at h;obtain⟨d,hd⟩:=Option.isSome_iff_exists.1 h.2;have m:=qox f _ _ _ hd;have e:(List.replicate f.qaa.length false).length=f.qaa.length:=zke;refine⟨m.nd e,m.rng e,fun b hb=>?_⟩;obtain⟨s1,s2,hg⟩:=qe4 _ _ _ hd b hb;exact(qmm hg).2
theorem q6k{p:Nat->Bool}{n k:Nat}(hk:k<n)(hp:p k=true)(h:∀j,j<k->p j=false):qhm p n 0=some k:=by
 cases hf:qhm p n 0 with
 |none=>rw[qkc hf k (by omega) (by omega)]at hp;cases hp
 |some i=>
  obtain⟨h1,h2,h3,h4⟩:=qf3 hf;by_cases e:i<k
  ·rw[h i e]at h3;cases h3
  ·by_cases e2:i=k
   ·rw[e2]
   ·rw[h4 k (by omega) (by omega)]at hp;cases hp
theorem q6j{p:Nat->Bool}{n:Nat}(h:∀j,j<n->p j=false):qhm p n 0=none:=by
 cases hf:qhm p n 0 with
 |none=>rfl
 |some i=>
  obtain⟨h1,h2,h3,h4⟩:=qf3 hf;rw[h i (by omega)]at h3;cases h3
theorem qhz{l:List Int}(hn:l.Nodup){i:Nat}(hi:i<l.length):Sp.index l (l.getD i 0)=i:=by
 unfold Sp.index;rw[q6k hi (by simp)]
 ·rfl
 ·intro j hj;refine decide_eq_false fun e=>?_;rw[zi5,zi5,zjc hi,zjc (show j<l.length by omega)]at e;exact(List.pairwise_iff_getElem.1 hn) j i (by omega) hi hj e.symm
theorem q6c{l:List Int}{v:Int}(h:v∉l):Sp.index l v=-1:=by
 unfold Sp.index;rw[q6j]
 ·rfl
 ·intro j hj;refine decide_eq_false fun e=>h ?_;rw[e,zi5,zjc hj];exact zj1 hj
section
variable {f:Fn} (hv:Sp.valid f=true)
include hv
end
section
variable {f:Fn} (hf:f.ok) (hv:Sp.valid f=true)
include hv
include hf
end
end
end Go.Abs
namespace Go.Abs
open Go Go.Proofs
noncomputable section
def Good(f:Fn)(s:List Bool×List Int):Prop:=s.1=qc4 f s.2/\(∀v∈s.2,0<=v/\v<f.blocks.length)/\s.2.Nodup
theorem qoh(f:Fn):∀(n:Nat) (b:Int) (s:List Bool×List Int),Good f s->Good f (Sp.visit f n b s)
 |0,b,s,h=>h
 |n+1,b,s,h=>by
  unfold Sp.visit;split
  ·exact h
  ·rename_i hb;split
   ·exact h
   ·rename_i hs;refine qhj (Good f) _ (fun r e hr=>qoh f n e.block r hr) _ _ ?_;obtain⟨h1,h2,h3⟩:=h;have hl:s.1.length=f.blocks.length:=by rw[h1,qi5]
    have hs':s.2.any (fun y=>decide (y=b))=false:=by
     rw[<- ql9 f s.2 (by omega) (by omega),<- h1];exact Bool.eq_false_iff.2 hs
    refine⟨?_,fun v hv=>?_,?_⟩
    ·show s.1.set b.toNat true=_;rw[h1];exact qhu f s.2 (by omega) (by omega)
    ·rcases zjp.1 hv with e|e
     ·exact h2 v e
     ·rw[zki]at e;subst e;exact⟨by omega,by omega⟩
    ·show(s.2++[b]).Nodup;refine zj0.2 ⟨h3,by simp,fun x hx y hy e=>?_⟩;rw[zki]at hy;subst hy;subst e;have:s.2.any (fun y=>decide (y=x))=true:=List.any_eq_true.2 ⟨x,hx,by simp⟩;rw[hs']at this;cases this
theorem qes(f:Fn):(∀v∈Sp.order f,0<=v/\v<f.blocks.length)/\(Sp.order f).Nodup:=by
 have:=qoh f (f.blocks.length+1) 0 (List.replicate f.blocks.length false,[]) ⟨(ql8 f).symm,(fun v hv=>by cases hv),List.nodup_nil⟩;exact⟨this.2.1,this.2.2⟩
theorem qmz{l:List Int}(hn:l.Nodup){v:Int}(h:v∈l):∃i,i<l.length/\l.getD i 0=v/\Sp.index l v=i:=by
 obtain⟨i,hi,e⟩:=zky h;have e2:l.getD i 0=v:=by rw[zi5,zjc hi];exact e
 exact⟨i,hi,e2,by rw[<- e2];exact qhz hn hi⟩
theorem qe2{P L:List Int}(hn:(P++L).Nodup){v:Int}(h:v∈P):Sp.index (P++L) v=Sp.index P v:=by
 obtain⟨i,hi,e1,e2⟩:=qmz (zj0.1 hn).1 h;rw[e2];have e3:(P++L).getD i 0=v:=by rw[<- e1];simp[zi5,zk4 hi]
 rw[<- e3];exact qhz hn (by simp;omega)
theorem qsh{P:List Int}{v:Int}(hn:(P++[v]).Nodup):Sp.index (P++[v]) v=(P.length:Int):=by
 have e3:(P++[v]).getD P.length 0=v:=by simp
 have:=qhz hn (i:=P.length) (by simp);rw[e3]at this;exact this
def qgz(W P:List Int):RS:=(fun k=>match k with
 |.i v=>if v∈P then some (Sp.index P v)else none
 | _=>none,P.map fun v=>W.getD v.toNat 0)
theorem qzw(W P:List Int)(v:Int)(hn:(P++[v]).Nodup):qgz W (P++[v])=(qij (qgz W P).1 (.i v) (P.length:Int),(qgz W P).2++[W.getD v.toNat 0]):=by
 have hv:v∉P:=fun h=>(zj0.1 hn).2.2 v h v (zki.2 rfl) rfl;unfold qgz;refine Prod.ext (funext fun k=>?_) (by simp);cases k with
 |i u=>
  show(if u∈P++[v]then some (Sp.index (P++[v]) u)else none)=(if(qb1.i u)=.i v then some (P.length:Int)else(if u∈P then some (Sp.index P u)else none))
  by_cases e:u=v
  ·subst e;rw[if_pos (by simp),if_pos rfl,qsh hn]
  ·rw[if_neg (show ¬ (qb1.i u)=.i v from fun h=>e (by injection h))];by_cases h:u∈P
   ·rw[if_pos (zjs _ h),if_pos h,qe2 hn h]
   ·rw[if_neg h,if_neg (fun hc=>by
     rcases zjp.1 hc with h' | h'
     ·exact h h'
     ·exact e (zki.1 h'))]
 |s b=>rfl
theorem qr5(W P:List Int){v:Int}(h0:0<=v)(h1:v<W.length)(h:v∈P):Sp.num W v (qgz W P)=(Sp.index P v,qgz W P):=by
 unfold Sp.num;rw[if_neg (by omega)];have:(qgz W P).1 (.i v)=some (Sp.index P v):=if_pos h;rw[this]
theorem q09(W P:List Int){v:Int}(h0:0<=v)(h1:v<W.length)(hn:(P++[v]).Nodup):Sp.num W v (qgz W P)=(Sp.index (P++[v]) v,qgz W (P++[v])):=by
 have hv:v∉P:=fun h=>(zj0.1 hn).2.2 v h v (zki.2 rfl) rfl;unfold Sp.num;rw[if_neg (by omega)];have:(qgz W P).1 (.i v)=none:=if_neg hv;rw[this,qzw W P v hn,qsh hn];simp[qgz]
def InR(W P:List Int):Prop:=∀v∈P,0<=v/\v<(W.length:Int)
theorem qhv(W P:List Int)(hr:InR W P):∀l:List Int,(∀v∈l,v∈P)->Sp.qg0 W l (qgz W P)=(l.map (Sp.index P),qgz W P)
 |[],_=>rfl
 |v::l,h=>by
  have hv:=h v (zjd ..);have e:=qr5 W P (hr v hv).1 (hr v hv).2 hv;simp only[Sp.qg0,e,qhv W P hr l (fun u hu=>h u (zjk _ hu)),zjl]
theorem qv0(W:List Int):∀(l P:List Int),(P++l).Nodup->InR W l->Sp.qg0 W l (qgz W P)=(l.map (Sp.index (P++l)),qgz W (P++l))
 |[],P,_,_=>by simp[Sp.qg0]
 |v::l,P,hn,hr=>by
  have hn2:(P++[v]++l).Nodup:=by simpa using hn
  have hn1:(P++[v]).Nodup:=(zj0.1 hn2).1;have e:=q09 W P (hr v (zjd ..)).1 (hr v (zjd ..)).2 hn1;have ih:=qv0 W l (P++[v]) hn2 (fun u hu=>hr u (zjk _ hu));have e2:P++[v]++l=P++v::l:=by simp
  rw[e2]at ih hn2;have e3:Sp.index (P++[v]) v=Sp.index (P++v::l) v:=by
   rw[<- e2];exact(qe2 (by rw[e2];exact hn2) (by simp)).symm
  simp only[Sp.qg0,e,ih,zjl,e3]
def qxe:List qat->List Int->Prop
 |[],_=>True
 |x::l,ks=>(∀v∈x.args,v∈ks)/\qxe l (if Sp.named x.op=true then ks++[x.dest]else ks)
def dl(l:List qat):List Int:=(l.filter fun x=>Sp.named x.op).map (·.dest)
def reI(r:Int->Int)(x:qat):qat:=⟨x.op,if Sp.named x.op=true then r x.dest else x.dest,x.args.map r,x.num,x.mem⟩
theorem qf4{x:qat}{l:List qat}(h:Sp.named x.op=true):dl (x::l)=x.dest::dl l:=by simp[dl,h]
theorem qf5{x:qat}{l:List qat}(h:Sp.named x.op=false):dl (x::l)=dl l:=by simp[dl,h]
theorem qmw(W:List Int):∀(l:List qat) (P ks:List Int),qxe l ks->(∀v∈ks,v∈P)->(P++dl l).Nodup->InR W (P++dl l)->(∀x∈l,Sp.named x.op=false->x.dest=-1) ->
  qgr (Sp.qky W) l (qgz W P)=(l.map (reI (Sp.index (P++dl l))),qgz W (P++dl l))
 |[],P,ks,_,_,_,_,_=>by simp[qgr,dl]
 |x::l,P,ks,hu,hk,hn,hr,hd=>by
  obtain⟨u1,u2⟩:=hu;have hrP:InR W P:=fun v hv=>hr v (zjs _ hv);have ea:=qhv W P hrP x.args (fun v hv=>hk v (u1 v hv));cases hx:Sp.named x.op with
  |true=>
   rw[qf4 hx]at hn hr ⊢;rw[if_pos hx]at u2;have e2:P++[x.dest]++dl l=P++x.dest::dl l:=by simp
   have hn2:(P++[x.dest]++dl l).Nodup:=by rw[e2];exact hn
   have hxr:=hr x.dest (by simp);have e:=q09 W P hxr.1 hxr.2 (zj0.1 hn2).1;have ih:=qmw W l (P++[x.dest]) (ks++[x.dest]) u2 (fun v hv=>by
    rcases zjp.1 hv with h|h
    ·exact zjs _ (hk v h)
    ·exact zkb _ h) hn2 (by rw[e2];exact hr) (fun y hy=>hd y (zjk _ hy))
   rw[e2]at ih;have e3:Sp.index (P++[x.dest]) x.dest=Sp.index (P++x.dest::dl l) x.dest:=by
    rw[<- e2];exact(qe2 hn2 (by simp)).symm
   have e4:x.args.map (Sp.index P)=x.args.map (Sp.index (P++x.dest::dl l)):=zj2 fun v hv=>(qe2 hn (hk v (u1 v hv))).symm;simp only[qgr,Sp.qky,ea,e,ih,zjl,reI,hx,if_true,e3,e4]
  |false=>
   rw[qf5 hx]at hn hr ⊢;rw[if_neg (by simp[hx])]at u2;have hdx:=hd x (zjd ..) hx;have e:=qt4 W x.dest (qgz W P) (by omega);have ih:=qmw W l P ks u2 hk hn hr (fun y hy=>hd y (zjk _ hy));have e4:x.args.map (Sp.index P)=x.args.map (Sp.index (P++dl l)):=zj2 fun v hv=>(qe2 hn (hk v (u1 v hv))).symm;simp only[qgr,Sp.qky,ea,e,ih,zjl,reI,hx,zjw,if_false,e4]
end
end Go.Abs
namespace Go.Abs
open Go Go.Proofs
noncomputable section
theorem qg4:∀(l:List qat) (ks:List Int),qxe l ks->∀x∈l,∀v∈x.args,v∈ks++dl l
 |[],_,_,x,hx,_,_=>by cases hx
 |y::l,ks,h,x,hx,v,hv=>by
  obtain⟨h1,h2⟩:=h;rcases zjx.1 hx with e|e
  ·subst e;exact zjs _ (h1 v hv)
  ·have:=qg4 l _ h2 x e v hv;cases hn:Sp.named y.op with
   |true=>
    rw[qf4 hn];rw[if_pos hn]at this;simpa using this
   |false=>
    rw[qf5 hn];rw[if_neg (by simp[hn])]at this;exact this
structure zb3(b:Block):Prop where
 is:qxe b.insts b.params
 cd:b.term.cond=-1\/b.term.cond∈Sp.qco b
 rs:∀v∈b.term.qax,v∈Sp.qco b
 es:∀e∈b.term.to,∀v∈e.args,v∈Sp.qco b
 ds:∀x∈b.insts,Sp.named x.op=false->x.dest=-1
def reE(r:Int->Int)(e:Edge):Edge:=⟨e.block,e.args.map r⟩
def reB(r:Int->Int)(b:Block):Block:=⟨b.params.map r,b.insts.map (reI r),⟨b.term.kind,if b.term.cond=-1 then -1 else r b.term.cond,b.term.to.map (reE r),b.term.qax.map r⟩,b.qar,b.qa9,b.line⟩
theorem qh1(b:Block):Sp.qco b=b.params++dl b.insts:=rfl
theorem qsw{l:List qat}{x:qat}(h:x∈l)(hn:Sp.named x.op=true):x.dest∈dl l:=zjz.2 ⟨x,zkn.2 ⟨h,hn⟩,rfl⟩
theorem q0p{b:Block}(hb:zb3 b){r r':Int->Int}(h:∀v∈Sp.qco b,r v=r' v):reB r b=reB r' b:=by
 have e1:b.params.map r=b.params.map r':=zj2 fun v hv=>h v (zjs _ hv);have e2:b.insts.map (reI r)=b.insts.map (reI r'):=zj2 fun x hx=>by
  have ea:x.args.map r=x.args.map r':=zj2 fun v hv=>h v (qg4 _ _ hb.is x hx v hv);unfold reI;rw[ea];split
  ·rename_i hn;rw[h x.dest (zkb _ (qsw hx hn))]
  ·rfl
 have e3:b.term.to.map (reE r)=b.term.to.map (reE r'):=zj2 fun e he=>by
  unfold reE;rw[zj2 fun v hv=>h v (hb.es e he v hv)]
 have e4:b.term.qax.map r=b.term.qax.map r':=zj2 fun v hv=>h v (hb.rs v hv);have e5:(if b.term.cond=-1 then(-1:Int)else r b.term.cond)=(if b.term.cond=-1 then(-1:Int)else r' b.term.cond):=by
  split
  ·rfl
  ·rename_i hc;exact h _ (hb.cd.resolve_left hc)
 unfold reB;rw[e1,e2,e3,e4,e5]
theorem qsu(W P:List Int)(hr:InR W P):∀l:List Edge,(∀e∈l,∀v∈e.args,v∈P)->qgr (Sp.qkz W) l (qgz W P)=(l.map (reE (Sp.index P)),qgz W P)
 |[],_=>rfl
 |e::l,h=>by
  have e1:=qhv W P hr e.args (h e (zjd ..));simp only[qgr,Sp.qkz,e1,qsu W P hr l (fun u hu=>h u (zjk _ hu)),zjl,reE]
theorem q5i(W P:List Int)(b:Block)(hb:zb3 b)(hn:(P++Sp.qco b).Nodup)(hr:InR W (P++Sp.qco b)):Sp.q0u W b (qgz W P)=(reB (Sp.index (P++Sp.qco b)) b,qgz W (P++Sp.qco b)):=by
 have ea:P++Sp.qco b=P++b.params++dl b.insts:=by rw[qh1];simp
 have hn1:(P++b.params++dl b.insts).Nodup:=by rw[<- ea];exact hn
 have hr1:InR W (P++b.params++dl b.insts):=by rw[<- ea];exact hr
 have k1:Sp.rPs W b (qgz W P)=(b.params.map (Sp.index (P++b.params)),qgz W (P++b.params)):=qv0 W b.params P (zj0.1 hn1).1 (fun v hv=>hr1 v (zjs _ (zkb _ hv)));have k2:Sp.rIs W b (qgz W P)=(b.insts.map (reI (Sp.index (P++Sp.qco b))),qgz W (P++Sp.qco b)):=by
  unfold Sp.rIs;rw[k1,ea];exact qmw W b.insts (P++b.params) b.params hb.is (fun v hv=>zkb _ hv) hn1 hr1 hb.ds
 have k3:Sp.rCd W b (qgz W P)=(if b.term.cond=-1 then -1 else Sp.index (P++Sp.qco b) b.term.cond,qgz W (P++Sp.qco b)):=by
  unfold Sp.rCd;rw[k2];by_cases hc:b.term.cond=-1
  ·rw[if_pos hc,hc];exact qt4 W (-1) _ (by omega)
  ·rw[if_neg hc];have hm:b.term.cond∈P++Sp.qco b:=zkb _ (hb.cd.resolve_left hc);exact qr5 W _ (hr _ hm).1 (hr _ hm).2 hm
 have k4:Sp.rRs W b (qgz W P)=(b.term.qax.map (Sp.index (P++Sp.qco b)),qgz W (P++Sp.qco b)):=by
  unfold Sp.rRs;rw[k3];exact qhv W _ hr _ fun v hv=>zkb _ (hb.rs v hv)
 have k5:Sp.rTo W b (qgz W P)=(b.term.to.map (reE (Sp.index (P++Sp.qco b))),qgz W (P++Sp.qco b)):=by
  unfold Sp.rTo;rw[k4];exact qsu W _ hr _ fun e he v hv=>zkb _ (hb.es e he v hv)
 have e1:b.params.map (Sp.index (P++b.params))=b.params.map (Sp.index (P++Sp.qco b)):=zj2 fun v hv=>by
  rw[ea];exact(qe2 hn1 (zkb _ hv)).symm
 unfold Sp.q0u reB;rw[k1,k2,k3,k4,k5,e1]
def qcc(f:Fn)(l:List Int):List Int:=l.flatMap fun b=>Sp.qco (f.blocks.getD b.toNat Block.z)
theorem qr2(f:Fn)(hu:∀i,i<f.blocks.length->zb3 (f.blocks.getD i Block.z)):∀(l P:List Int),(∀b∈l,0<=b/\b<f.blocks.length)->(P++qcc f l).Nodup->InR f.qaa (P++qcc f l) ->
  qgr (Sp.rAt f) l (qgz f.qaa P)=(l.map (fun b=>reB (Sp.index (P++qcc f l)) (f.blocks.getD b.toNat Block.z)),qgz f.qaa (P++qcc f l))
 |[],P,_,_,_=>by simp[qgr,qcc]
 |b::l,P,hb,hn,hr=>by
  have h0:=hb b (zjd ..);have hbu:=hu b.toNat (by omega);have e2:P++qcc f (b::l)=P++Sp.qco (f.blocks.getD b.toNat Block.z)++qcc f l:=by simp[qcc]
  rw[e2]at hn hr ⊢;have k:=q5i f.qaa P _ hbu (zj0.1 hn).1 (fun v hv=>hr v (zjs _ hv));have ih:=qr2 f hu l (P++Sp.qco (f.blocks.getD b.toNat Block.z)) (fun c hc=>hb c (zjk _ hc)) hn hr;have e3:=q0p hbu (r:=Sp.index (P++Sp.qco (f.blocks.getD b.toNat Block.z))) (r':=Sp.index (P++Sp.qco (f.blocks.getD b.toNat Block.z)++qcc f l)) fun v hv=>(qe2 hn (zkb _ hv)).symm;simp only[qgr,Sp.rAt,k,zjl,e3];rw[show(Sp.rAt f)=fun b s=>Sp.q0u f.qaa (f.blocks.getD b.toNat Block.z) s from rfl]at ih;rw[show(qgr (Sp.rAt f) l)=qgr (fun b s=>Sp.q0u f.qaa (f.blocks.getD b.toNat Block.z) s) l from rfl,ih]
end
end Go.Abs
namespace Go.Abs
open Go Go.Proofs
noncomputable section
theorem qqn{b c:Int}{l:List Int}(hn:(b::l).Nodup)(hc:c∈l):Sp.index (b::l) c=Sp.index l c+1:=by
 obtain⟨k,h1,h2,h3⟩:=qmz (zj5.1 hn).2 hc;have e:(b::l).getD (k+1) 0=c:=by rw[<- h2];simp
 have:=qhz hn (i:=k+1) (by simp;omega)
 rw[e]at this;rw[this,h3];omega
theorem qqo{b:Int}{l:List Int}(hn:(b::l).Nodup):Sp.index (b::l) b=0:=by
 have:=qhz hn (i:=0) (by simp);simpa using this
theorem q1g:∀(l:List Int) (i:Nat) (m:qb1->Option Int) (c:Int),l.Nodup->q5x l i m (.i c)=if c∈l then some ((i:Int)+Sp.index l c)else m (.i c)
 |[],i,m,c,_=>by simp[q5x]
 |b::l,i,m,c,hn=>by
  have hn2:=(zj5.1 hn).2;rw[q5x,q1g l (i+1) _ c hn2];by_cases hc:c∈l
  ·rw[if_pos hc,if_pos (zjk _ hc),qqn hn hc];congr 1;omega
  ·rw[if_neg hc];by_cases e:c=b
   ·subst e;rw[if_pos (zjd ..),qqo hn];simp[qij]
   ·rw[if_neg (fun h=>by
     rcases zjx.1 h with h|h
     ·exact e h
     ·exact hc h)]
    unfold qij;rw[if_neg (fun h=>e (by injection h))]
theorem qko(f:Fn){b:Nat}(hb:(b:Int)∈Sp.order f){e:Edge}(he:e∈(f.blocks.getD b Block.z).term.to)(h0:0<=e.block)(h1:e.block<f.blocks.length):e.block∈Sp.order f:=by
 have v:=(qrc f (f.blocks.length+1) 0 (List.replicate f.blocks.length false,[]) (by rw[qjy];omega)).1
 have ho:=v.out (fun x=>⟨fun h=>absurd h qvj,fun h=>by cases h⟩);obtain⟨k,hk⟩:=zk3 h0;have hx:seen (Sp.visit f (f.blocks.length+1) 0 (List.replicate f.blocks.length false,[])).1 b:=(ho b).2 hb;have:=v.closed b hx qvj k (by simp only[zke];omega) (qsd.2 ⟨e,he,hk⟩)
 rw[hk];exact(ho k).1 this
structure VOk(f:Fn):Prop where
 use:∀i,i<f.blocks.length->zb3 (f.blocks.getD i Block.z)
 es:∀i,i<f.blocks.length->∀e∈(f.blocks.getD i Block.z).term.to,0<=e.block/\e.block<f.blocks.length
 nd:(qcc f (Sp.order f)).Nodup
 rg:InR f.qaa (qcc f (Sp.order f))
def Sp.ren(f:Fn):Int->Int:=Sp.index (qcc f (Sp.order f))
def Sp.reG(f:Fn)(b:Block):Block:=⟨b.params,b.insts,⟨b.term.kind,b.term.cond,b.term.to.map (fun e=>⟨Sp.index (Sp.order f) e.block,e.args⟩),b.term.qax⟩,b.qar,b.qa9,b.line⟩
def Sp.canon(f:Fn):Fn:=⟨f.name,(qcc f (Sp.order f)).map (fun v=>f.qaa.getD v.toNat 0),f.qag,f.streams,f.qax,(Sp.order f).map fun b=>Sp.reG f (reB (Sp.ren f) (f.blocks.getD b.toNat Block.z))⟩
theorem qme(f:Fn)(h:VOk f):Sp.qig f=Sp.canon f:=by
 have ho:=qes f;have k:=qr2 f h.use (Sp.order f) [] ho.1 (by simpa using h.nd) (by simpa using h.rg);have e0:qgz f.qaa []=(fun _=>none,[]):=by
  unfold qgz;refine Prod.ext (funext fun k=>?_) rfl;cases k<;>simp
 rw[e0]at k;simp only[zj8]at k;unfold Sp.qig Sp.canon;rw[show Sp.q7y f=_ from k];simp only[zkj];congr 1;refine zj2 fun b hb=>?_;have hr:=ho.1 b hb;show Sp.zbs _ (reB _ _)=Sp.reG f (reB _ _);unfold Sp.zbs Sp.reG;congr 2;refine zj2 fun e he=>?_;unfold reB at he;obtain⟨e',he',rfl⟩:=zjz.1 he;have hb2:=h.es b.toNat (by omega) e' he';have hm:e'.block∈Sp.order f:=qko f (b:=b.toNat) (by rw[zk1 hr.1];exact hb) he' hb2.1 hb2.2
 unfold Sp.rGo reE;simp only;rw[q1g _ _ _ _ ho.2,if_pos hm];simp
end
end Go.Abs
