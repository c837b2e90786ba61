/- limb.Less, order.N, ecdsa.scalar. -/
import Derived.Test.YthpmkmogoejjpaaGreatDoorSC
import Derived.Test.YthpmkmogoejjpaaGreatDoorSG
set_option linter.unusedSimpArgs false
set_option linter.unusedVariables false
namespace Go.Proofs.YthpmkmogoejjpaaGreatDoor
open Go Go.VM
variable {G : GE}
set_option maxRecDepth 100000
set_option maxHeartbeats 4000000
theorem subC_bw: ∀(a b:List Int) (c:Int),a.length=b.length→In64 a→In64 b→0≤c→c≤1→(subC a b c).2=if wL a<wL b+c then 1 else 0
 |[],[],c,_,_,_,h0,h1=>by
  show c=_
  by_cases h:wL []<wL []+c
  ·rw[if_pos h];omega
  ·rw[if_neg h];omega
 |[],_::_,_,h,_,_,_,_=>by cases h
 |_::_,[],_,h,_,_,_,_=>by cases h
 |x::a,y::b,c,h,ha,hb,h0,h1=>by
  have hx:=ha x (List.mem_cons_self ..)
  have hy:=hb y (List.mem_cons_self ..)
  have hw:=bw_01 x y c
  have ih:=subC_bw a b (bw x y c) (by simpa using h) (fun z hz=>ha z (List.mem_cons_of_mem _ hz)) (fun z hz=>hb z (List.mem_cons_of_mem _ hz)) hw.1 hw.2
  simp only[subC,ih]
  have e1:wL (x::a)=x+18446744073709551616*wL a:=rfl
  have e2:wL (y::b)=y+18446744073709551616*wL b:=rfl
  have e3:=bw_eq x y c
  by_cases h2:x<y+c
  ·rw[if_pos h2] at e3
   by_cases h3:wL a<wL b+bw x y c
   ·rw[if_pos h3,if_pos (show wL (x::a)<wL (y::b)+c by omega)]
   ·rw[if_neg h3,if_neg (show¬wL (x::a)<wL (y::b)+c by omega)]
  ·rw[if_neg h2] at e3
   by_cases h3:wL a<wL b+bw x y c
   ·rw[if_pos h3,if_pos (show wL (x::a)<wL (y::b)+c by omega)]
   ·rw[if_neg h3,if_neg (show¬wL (x::a)<wL (y::b)+c by omega)]
def SubK (G:GE):Prop:= ∀F n a0 a1 a2 a3 a4 a5 b0 b1 b2 b3 b4 b5,8≤F→
  callN (envG G) F (n+2) 194 [.d (limbD [a0,a1,a2,a3,a4,a5]),.d (limbD [b0,b1,b2,b3,b4,b5])]=some ⟨[.d (limbD (subC [a0,a1,a2,a3,a4,a5] [b0,b1,b2,b3,b4,b5] 0).1),.d (.int .u64 (subC [a0,a1,a2,a3,a4,a5] [b0,b1,b2,b3,b4,b5] 0).2)],[]⟩
theorem t_Less (hK:SubK G) (F n:Nat) (hF:8≤F) (a0 a1 a2 a3 a4 a5 b0 b1 b2 b3 b4 b5:Int) (ha:In64 [a0,a1,a2,a3,a4,a5]) (hb:In64 [b0,b1,b2,b3,b4,b5]):
  callN (envG G) F (n+3) 215 [.d (limbD [a0,a1,a2,a3,a4,a5]),.d (limbD [b0,b1,b2,b3,b4,b5])]=some ⟨[.d (.int .u64 (if wL [a0,a1,a2,a3,a4,a5]<wL [b0,b1,b2,b3,b4,b5] then 1 else 0))],[]⟩:=by
 have k:=hK F n a0 a1 a2 a3 a4 a5 b0 b1 b2 b3 b4 b5 hF
 rw[subC_bw [a0,a1,a2,a3,a4,a5] [b0,b1,b2,b3,b4,b5] 0 rfl ha hb (by omega) (by omega),Int.add_zero] at k
 obtain⟨l0,l1,l2,l3,l4,l5,hl⟩: ∃l0 l1 l2 l3 l4 l5,(subC [a0,a1,a2,a3,a4,a5] [b0,b1,b2,b3,b4,b5] 0).1=[l0,l1,l2,l3,l4,l5]:=⟨_,_,_,_,_,_,rfl⟩
 rw[hl] at k
 clear hl
 generalize (if wL [a0,a1,a2,a3,a4,a5]<wL [b0,b1,b2,b3,b4,b5] then(1:Int) else 0)=r at*
 clear ha hb hK
 rw[callN_run (fn:=Tryz.f215) rfl rfl rfl (by simp[Tryz.ntmps215])]
 generalize hC:(envG G).ctx 215 (callN (envG G) F (n+2)) (callP (envG G) F (n+2))=C
 have htt:C.tt=(envG G).tt:=by rw[←hC];rfl
 have hlin:C.lin=[]:=by rw[←hC];rfl
 have hreg:C.reg=reg215:=by rw[←hC];rfl
 have hcall:C.call=callN (envG G) F (n+2):=by rw[←hC];rfl
 have hcallP:C.callP=callP (envG G) F (n+2):=by rw[←hC];rfl
 simp only[limbD,List.map] at*
 simp[htt,hlin,hreg,reg215,hcall,hcallP,k]
@[simp] theorem evO_glob (C : Ctx) (st : St) (t g : Nat) : evO C st t (.global g) = some (.gp g 0) := (rfl)
theorem bin_ne_agg {C:Ctx} {t:Nat} {ox oy:Operand} (p:List D) (v:V):evBin C .neq t ox oy (.d (.agg p)) v=notB (evEq C t ox oy (.d (.agg p)) v):=(rfl)
theorem u384_eq {C:Ctx} (htt:C.tt=(envG G).tt) (ox oy:Operand) (a0 a1 a2 a3 a4 a5 b0 b1 b2 b3 b4 b5:Int):
  eqK C 28 (.arr 6 26) true ox oy (.d (.agg [.int .u64 a0,.int .u64 a1,.int .u64 a2,.int .u64 a3,.int .u64 a4,.int .u64 a5])) (.d (.agg [.int .u64 b0,.int .u64 b1,.int .u64 b2,.int .u64 b3,.int .u64 b4,.int .u64 b5]))=some (decide (a0=b0) && decide (a1=b1) && decide (a2=b2) && decide (a3=b3) && decide (a4=b4) && decide (a5=b5)):=by
 have h:eqK C 28 (.arr 6 26) true ox oy (.d (.agg [.int .u64 a0,.int .u64 a1,.int .u64 a2,.int .u64 a3,.int .u64 a4,.int .u64 a5])) (.d (.agg [.int .u64 b0,.int .u64 b1,.int .u64 b2,.int .u64 b3,.int .u64 b4,.int .u64 b5]))=(bif a0==b0 then(bif a1==b1 then(bif a2==b2 then(bif a3==b3 then(bif a4==b4 then(bif a5==b5 then(some true) else some false) else some false) else some false) else some false) else some false) else some false):=by
  cases C
  cases htt
  kernel_rfl
 rw[h]
 have e: ∀x y:Int,(x==y)=decide (x=y):=fun x y=>by by_cases h:x=y<;>simp[h]
 simp only[e]
 by_cases h0:a0=b0<;>by_cases h1:a1=b1<;>by_cases h2:a2=b2<;>by_cases h3:a3=b3<;>by_cases h4:a4=b4<;>by_cases h5:a5=b5<;>simp[h0,h1,h2,h3,h4,h5]
def groupM:List Int:=[17072048233947408755,6348401684107011962,14367412456785391071,18446744073709551615,18446744073709551615,18446744073709551615]
def groupC:List D:=(groupM++[7986114184663260229,3256554584917936553,18391999277541532697,13564358545871743303,15279949475123764421,4589268600508278933,902107514168524577]).map (.int .u64)
def GroupG (G:GE):Prop:=G.glob 6=some groupC
theorem groupM_in:In64 groupM:=by
 unfold In64 groupM
 simp
theorem t_orderN (hg:GroupG G) (F n:Nat):callN (envG G) F (n+1) 216 []=some ⟨[.d (limbD groupM)],[]⟩:=by
 rw[callN_run (fn:=Tryz.f216) rfl rfl rfl (by simp[Tryz.ntmps216])]
 generalize hC:(envG G).ctx 216 (callN (envG G) F (n)) (callP (envG G) F (n))=C
 have htt:C.tt=(envG G).tt:=by rw[←hC];rfl
 have hlin:C.lin=[]:=by rw[←hC];rfl
 have hreg:C.reg=reg216:=by rw[←hC];rfl
 have hcall:C.call=callN (envG G) F (n):=by rw[←hC];rfl
 have hcallP:C.callP=callP (envG G) F (n):=by rw[←hC];rfl
 have hgl:C.glob 6=some groupC:=by rw[←hC];exact hg
 clear hC
 simp only[groupC,groupM,limbD,List.map,List.cons_append,List.nil_append] at*
 simp[htt,hlin,hreg,reg216,hcall,hcallP,hgl,ld_gp,fldA_gp]
def isScalar (a:List Int):Bool:= !decide (wL a=0) && decide (wL a<wL groupM)
theorem t_eScalar (hK:SubK G) (hg:GroupG G) (F n:Nat) (hF:8≤F) (a0 a1 a2 a3 a4 a5:Int) (ha:In64 [a0,a1,a2,a3,a4,a5]):
  callN (envG G) F (n+4) 154 [.d (limbD [a0,a1,a2,a3,a4,a5])]=some ⟨[.d (.bool (isScalar [a0,a1,a2,a3,a4,a5]))],[]⟩:=by
 have k1:=t_orderN (G:=G) hg F (n+2)
 have k2:=t_Less (G:=G) hK F n hF a0 a1 a2 a3 a4 a5 _ _ _ _ _ _ ha groupM_in
 have hz:=wL_zero ha
 simp only[List.mem_cons,List.not_mem_nil,or_false,forall_eq_or_imp,forall_eq] at hz
 unfold isScalar
 change callN _ _ _ _ [_,.d (limbD groupM)]=_ at k2
 rw[show wL [17072048233947408755,6348401684107011962,14367412456785391071,18446744073709551615,18446744073709551615,18446744073709551615]=wL groupM from rfl] at k2
 generalize wL [a0,a1,a2,a3,a4,a5]=w at*
 generalize wL groupM=q at*
 rw[callN_run (fn:=Tryz.f154) rfl rfl rfl (by simp[Tryz.ntmps154])]
 generalize hC:(envG G).ctx 154 (callN (envG G) F (n+3)) (callP (envG G) F (n+3))=C
 have htt:C.tt=(envG G).tt:=by rw[←hC];rfl
 have hlin:C.lin=[]:=by rw[←hC];rfl
 have hreg:C.reg=reg154:=by rw[←hC];rfl
 have hcall:C.call=callN (envG G) F (n+3):=by rw[←hC];rfl
 have hcallP:C.callP=callP (envG G) F (n+3):=by rw[←hC];rfl
 have hlv_200001:C.live 200001=[]:=by rw[←hC];rfl
 have hlv_250001:C.live 250001=[]:=by rw[←hC];rfl
 clear hC ha hK hg
 simp only[limbD,List.map,groupM] at*
 by_cases hw:w=0
 ·have h0:=hz.1 hw
  obtain⟨rfl,rfl,rfl,rfl,rfl,rfl⟩:=h0
  simp[htt,hlin,hreg,reg154,hcall,hcallP,hlv_200001,hlv_250001,bin_ne_agg,(u384_eq (G:=G)),notB_some,k1,k2,hw]
 ·have h0:(decide (a0=0) && decide (a1=0) && decide (a2=0) && decide (a3=0) && decide (a4=0) && decide (a5=0))=false:=by
   simp only[Bool.and_eq_false_imp,decide_eq_true_eq,decide_eq_false_iff_not,Bool.and_eq_true]
   intro ⟨⟨⟨⟨h0,h1⟩,h2⟩,h3⟩,h4⟩ h5
   exact hw (hz.2 ⟨h0,h1,h2,h3,h4,h5⟩)
  by_cases hq:w<q
  ·simp[htt,hlin,hreg,reg154,hcall,hcallP,hlv_200001,hlv_250001,bin_ne_agg,(u384_eq (G:=G)),notB_some,k1,k2,hw,hq,h0]
  ·simp[htt,hlin,hreg,reg154,hcall,hcallP,hlv_200001,hlv_250001,bin_ne_agg,(u384_eq (G:=G)),notB_some,k1,k2,hw,hq,h0]
end Go.Proofs.YthpmkmogoejjpaaGreatDoor
set_option linter.unusedSimpArgs false
set_option linter.unusedVariables false
namespace Go.Proofs.YthpmkmogoejjpaaGreatDoor
open Go Go.VM
variable {G : GE}
set_option maxRecDepth 100000
set_option maxHeartbeats 4000000
theorem w_lo {a:Int} (h:0≤a∧a<18446744073709551616):IntKind.u64.wrap (a.tmod 4294967296)=a % 4294967296:=by
 rw[Int.tmod_eq_emod_of_nonneg h.1]
 exact ok_u64 (by omega) (by omega)
theorem w_hi {a:Int} (h:0≤a∧a<18446744073709551616):IntKind.u64.wrap (a.tdiv 4294967296)=a/4294967296:=by
 rw[Int.tdiv_eq_ediv_of_nonneg h.1]
 exact ok_u64 (by omega) (by omega)
theorem t_Of (F n:Nat) (hF:14≤F) (a0 a1 a2 a3 a4 a5:Int) (ha:In64 [a0,a1,a2,a3,a4,a5]):
  callN (envG G) F (n+2) 173 [.d (.nums .u64 false [a0,a1,a2,a3,a4,a5])]=some ⟨[.d (.nums .u64 false (trimL (halves [a0,a1,a2,a3,a4,a5])))],[]⟩:=by
 have k:=t_Trim (G:=G) F n false (halves [a0,a1,a2,a3,a4,a5]) (by simp[halves]) (by simp[halves];omega)
 generalize trimL (halves [a0,a1,a2,a3,a4,a5])=r at*
 simp only[In64,List.mem_cons,List.not_mem_nil,or_false,forall_eq_or_imp,forall_eq] at ha
 obtain⟨ha0,ha1,ha2,ha3,ha4,ha5⟩:=ha
 simp only[halves,←w_lo ha0,←w_lo ha1,←w_lo ha2,←w_lo ha3,←w_lo ha4,←w_lo ha5,←w_hi ha0,←w_hi ha1,←w_hi ha2,←w_hi ha3,←w_hi ha4,←w_hi ha5] at k
 clear ha0 ha1 ha2 ha3 ha4 ha5
 rw[callN_run (fn:=Tryz.f173) rfl rfl rfl (by simp[Tryz.ntmps173])]
 generalize hC:(envG G).ctx 173 (callN (envG G) F (n+1)) (callP (envG G) F (n+1))=C
 have htt:C.tt=(envG G).tt:=by rw[←hC];rfl
 have hlin:C.lin=[25,23,3,2,11]:=by rw[←hC];rfl
 have hreg:C.reg=reg173:=by rw[←hC];rfl
 have hcall:C.call=callN (envG G) F (n+1):=by rw[←hC];rfl
 have hcallP:C.callP=callP (envG G) F (n+1):=by rw[←hC];rfl
 have hlv_3:C.live 3=[0,3,4]:=by rw[←hC];rfl
 have hlv_100003:C.live 100003=[2,3]:=by rw[←hC];rfl
 have hlv_200005:C.live 200005=[]:=by rw[←hC];rfl
 have hlv_250005:C.live 250005=[11]:=by rw[←hC];rfl
 obtain⟨F,rfl⟩: ∃j,F=j+14:=⟨F-14,by omega⟩
 simp[htt,hlin,hreg,reg173,hcall,hcallP,hlv_3,hlv_100003,hlv_200005,hlv_250005,ev_loop,iter_eq,k]
theorem t_Of6 (F n:Nat) (hF:14≤F) (a0 a1 a2 a3 a4 a5:Int) (ha:In64 [a0,a1,a2,a3,a4,a5]):
  callN (envG G) F (n+3) 106 [.d (limbD [a0,a1,a2,a3,a4,a5])]=some ⟨[.d (.nums .u64 false (trimL (halves [a0,a1,a2,a3,a4,a5])))],[]⟩:=by
 have k:=t_Of (G:=G) F n hF a0 a1 a2 a3 a4 a5 ha
 generalize trimL (halves [a0,a1,a2,a3,a4,a5])=r at*
 clear ha
 simp only[limbD,List.map]
 rw[callN_run (fn:=Tryz.f106) rfl rfl rfl (by simp[Tryz.ntmps106])]
 generalize hC:(envG G).ctx 106 (callN (envG G) F (n+2)) (callP (envG G) F (n+2))=C
 have htt:C.tt=(envG G).tt:=by rw[←hC];rfl
 have hlin:C.lin=[16,14,3,2,9]:=by rw[←hC];rfl
 have hreg:C.reg=reg106:=by rw[←hC];rfl
 have hcall:C.call=callN (envG G) F (n+2):=by rw[←hC];rfl
 have hcallP:C.callP=callP (envG G) F (n+2):=by rw[←hC];rfl
 have hlv_3:C.live 3=[1,3,4]:=by rw[←hC];rfl
 have hlv_100003:C.live 100003=[2,3]:=by rw[←hC];rfl
 obtain⟨F,rfl⟩: ∃j,F=j+14:=⟨F-14,by omega⟩
 simp[htt,hlin,hreg,reg106,hcall,hcallP,hlv_3,hlv_100003,ev_loop,iter_eq,k]
theorem loop_cmp {m:Nat} {C:Ctx} {F:Nat} (hC:(envG G).ctx 171 (callN (envG G) F (m)) (callP (envG G) F (m))=C) {c:Code} (hc:loopAt 6 Tryz.f171=some c) (na nb:Bool) (a b:List Int) (hx:a.length≤140737488355328):
  ∀(i k:Nat) (st:St),i≤a.length→i≤b.length→i<k→st.trim 0 [0,1,5]=⟨[(0,.d (.nums .u64 na a)),(1,.d (.nums .u64 nb b)),(5,.d (.int .i64 ((i:Int)-1)))],[],[]⟩→
   match cmpT a b i with
   |0=>iter (ev C F c) 0 [0,1,5] [4] k st=some (.exit 0,⟨[],[],[]⟩)
   |r=>iter (ev C F c) 0 [0,1,5] [4] k st=some (.ret,⟨[(4,.d (.int .i64 r))],[],[]⟩):=by
 have htt:C.tt=(envG G).tt:=by rw[←hC];rfl
 have hlin:C.lin=[]:=by rw[←hC];rfl
 have hreg:C.reg=reg171:=by rw[←hC];rfl
 have hcall:C.call=callN (envG G) F (m):=by rw[←hC];rfl
 have hcallP:C.callP=callP (envG G) F (m):=by rw[←hC];rfl
 have hlv_6:C.live 6=[0,1,5]:=by rw[←hC];rfl
 have hlv_100006:C.live 100006=[4]:=by rw[←hC];rfl
 have hlv_200008:C.live 200008=[]:=by rw[←hC];rfl
 have hlv_250008:C.live 250008=[]:=by rw[←hC];rfl
 have hlv_200010:C.live 200010=[]:=by rw[←hC];rfl
 have hlv_250010:C.live 250010=[]:=by rw[←hC];rfl
 have hev: ∀st,ev C F c st=ev C F ((loopAt 6 Tryz.f171).getD .skip) st:=fun st=>by rw[hc];rfl
 intro i
 induction i with
 |zero=>
  intro k st hi hj hk hst
  obtain⟨k,rfl⟩: ∃j,k=j+1:=⟨k-1,by omega⟩
  show iter _ _ _ _ _ _=_
  rw[iter_eq,hst,hev]
  simp[loopAt,findLoop,Tryz.f171,htt,hlin,hreg,reg171,hcall,hcallP,hlv_6,hlv_100006,hlv_200008,hlv_250008,hlv_200010,hlv_250010]
 |succ i ih=>
  intro k st hi hj hk hst
  obtain⟨k,rfl⟩: ∃j,k=j+1:=⟨k-1,by omega⟩
  have e0:(((i+1:Nat):Int)-1)=i:=by omega
  rw[e0] at hst
  have e2:i<a.length:=by omega
  have e3:i<b.length:=by omega
  have e4:(-9223372036854775808:Int)≤i-1:=by omega
  have e5:(i:Int)-1≤9223372036854775807:=by omega
  have ih' :=fun st h=>ih k st (by omega) (by omega) (by omega) h
  unfold cmpT
  have g1:a.getD i 0=a[i]:=by simp[List.getD,e2]
  have g2:b.getD i 0=b[i]:=by simp[List.getD,e3]
  rw[g1,g2]
  by_cases h1:a[i]<b[i]
  ·simp only[h1,decide_true]
   rw[iter_eq,hst,hev]
   simp[loopAt,findLoop,Tryz.f171,htt,hlin,hreg,reg171,hcall,hcallP,hlv_6,hlv_100006,hlv_200008,hlv_250008,hlv_200010,hlv_250010,e2,e3,h1]
  ·by_cases h2:b[i]<a[i]
   ·simp only[h1,h2,decide_true,decide_false]
    rw[iter_eq,hst,hev]
    simp[loopAt,findLoop,Tryz.f171,htt,hlin,hreg,reg171,hcall,hcallP,hlv_6,hlv_100006,hlv_200008,hlv_250008,hlv_200010,hlv_250010,e2,e3,h1,h2]
   ·simp only[h1,h2,decide_false]
    rw[iter_eq,hst,hev]
    generalize cmpT a b i=z at*
    simp[loopAt,findLoop,Tryz.f171,htt,hlin,hreg,reg171,hcall,hcallP,hlv_6,hlv_100006,hlv_200008,hlv_250008,hlv_200010,hlv_250010,e2,e3,e4,e5,h1,h2]
    exact ih' _ (by simp)
end Go.Proofs.YthpmkmogoejjpaaGreatDoor
set_option linter.unusedSimpArgs false
set_option linter.unusedVariables false
namespace Go.Proofs.YthpmkmogoejjpaaGreatDoor
open Go Go.VM
variable {G : GE}
set_option maxRecDepth 100000
set_option maxHeartbeats 4000000
theorem t_Cmp (F n:Nat) (na nb:Bool) (a b:List Int) (hx:a.length≤140737488355328) (hf:a.length<F):
  callN (envG G) F (n+1) 171 [.d (.nums .u64 na a),.d (.nums .u64 nb b)]=some ⟨[.d (.int .i64 (cmpL a b))],[]⟩:=by
 rw[callN_run (fn:=Tryz.f171) rfl rfl rfl (by simp[Tryz.ntmps171])]
 generalize hC:(envG G).ctx 171 (callN (envG G) F (n)) (callP (envG G) F (n))=C
 have htt:C.tt=(envG G).tt:=by rw[←hC];rfl
 have hlin:C.lin=[]:=by rw[←hC];rfl
 have hreg:C.reg=reg171:=by rw[←hC];rfl
 have hcall:C.call=callN (envG G) F (n):=by rw[←hC];rfl
 have hcallP:C.callP=callP (envG G) F (n):=by rw[←hC];rfl
 have hlv_6:C.live 6=[0,1,5]:=by rw[←hC];rfl
 have hlv_100006:C.live 100006=[4]:=by rw[←hC];rfl
 have hlv_200008:C.live 200008=[]:=by rw[←hC];rfl
 have hlv_250008:C.live 250008=[]:=by rw[←hC];rfl
 have hlv_200010:C.live 200010=[]:=by rw[←hC];rfl
 have hlv_250010:C.live 250010=[]:=by rw[←hC];rfl
 have hL:=fun st h' h=>loop_cmp (G:=G) hC rfl na nb a b hx a.length F st (Nat.le_refl _) h' hf h
 clear hC
 unfold cmpL
 by_cases h1:a.length<b.length
 ·have e1: ¬(a.length:Int)=b.length:=by omega
  have e2:(a.length:Int)<b.length:=by omega
  have e3: ¬a.length=b.length:=by omega
  simp[htt,hlin,hreg,reg171,hcall,hcallP,hlv_6,hlv_100006,hlv_200008,hlv_250008,hlv_200010,hlv_250010,e1,e2,e3,h1]
 ·by_cases h2:b.length<a.length
  ·have e1: ¬(a.length:Int)=b.length:=by omega
   have e2: ¬(a.length:Int)<b.length:=by omega
   have e3: ¬a.length=b.length:=by omega
   simp[htt,hlin,hreg,reg171,hcall,hcallP,hlv_6,hlv_100006,hlv_200008,hlv_250008,hlv_200010,hlv_250010,e1,e2,e3,h1,h2]
  ·have e3:a.length=b.length:=by omega
   have hL:=fun st=>hL st (by omega)
   simp only[h1,h2,decide_false]
   generalize cmpT a b a.length=z at*
   have e4:(-9223372036854775808:Int)≤(b.length:Int)-1:=by omega
   have e5:(b.length:Int)-1≤9223372036854775807:=by omega
   by_cases hz:z=0
   ·subst hz
    simp only at hL
    simp[htt,hlin,hreg,reg171,hcall,hcallP,hlv_6,hlv_100006,hlv_200008,hlv_250008,hlv_200010,hlv_250010,e3,e4,e5,ev_loop]
    rw[e3] at hL
    rw[hL _ (by simp)]
    simp[htt,hlin,hreg,reg171,hcall,hcallP,hlv_6,hlv_100006,hlv_200008,hlv_250008,hlv_200010,hlv_250010]
   ·have hL2: ∀st,_→_:=fun st h=>by
     have:=hL st h
     split at this
     ·exact absurd rfl hz
     ·exact this
    clear hL
    simp[htt,hlin,hreg,reg171,hcall,hcallP,hlv_6,hlv_100006,hlv_200008,hlv_250008,hlv_200010,hlv_250010,e3,e4,e5,ev_loop]
    rw[e3] at hL2
    rw[hL2 _ (by simp)]
    simp[htt,hlin,hreg,reg171,hcall,hcallP,hlv_6,hlv_100006,hlv_200008,hlv_250008,hlv_200010,hlv_250010]
def nL:List Int:=[3435473267,3974895978,1219536762,1478102450,4097256927,3345173889,4294967295,4294967295,4294967295,4294967295,4294967295,4294967295]
theorem t_rN (F n:Nat):callN (envG G) F (n+1) 172 []=some ⟨[.d (.nums .u64 false nL)],[0]⟩:=by
 rw[callN_run (fn:=Tryz.f172) rfl rfl rfl (by simp[Tryz.ntmps172])]
 generalize hC:(envG G).ctx 172 (callN (envG G) F (n)) (callP (envG G) F (n))=C
 have htt:C.tt=(envG G).tt:=by rw[←hC];rfl
 have hlin:C.lin=[]:=by rw[←hC];rfl
 have hreg:C.reg=reg172:=by rw[←hC];rfl
 have hcall:C.call=callN (envG G) F (n):=by rw[←hC];rfl
 have hcallP:C.callP=callP (envG G) F (n):=by rw[←hC];rfl
 clear hC
 simp[htt,hlin,hreg,reg172,hcall,hcallP,nL]
theorem nL_val:vL nL=wL groupM:=by
 simp only[nL,groupM,vL,wL]
 omega
theorem nL_canon:Canon nL:=by
 refine⟨?_, ?_⟩
 ·unfold In32 nL
  simp
 ·intro x hx
  simp[nL] at hx
  omega
theorem cmp_scalar {l:List Int} (h:In64 l):decide (cmpL (trimL (halves l)) nL<0)=decide (wL l<wL groupM):=by
 have h1:=cmpL_lt (trimL_canon (halves_in l h)) nL_canon
 rw[vL_trim,vL_halves,nL_val] at h1
 by_cases h2:wL l<wL groupM
 ·simp[h2,h1.2 h2]
 ·have: ¬cmpL (trimL (halves l)) nL<0:=fun h3=>h2 (h1.1 h3)
  simp[h2,this]
end Go.Proofs.YthpmkmogoejjpaaGreatDoor
set_option linter.unusedSimpArgs false
set_option linter.unusedVariables false
namespace Go.Proofs.YthpmkmogoejjpaaGreatDoor
open Go Go.VM
variable {G : GE}
set_option maxRecDepth 100000
set_option maxHeartbeats 4000000
def rdiv (d:Int):Nat→Int
 |0=>d
 |k+1=>IntKind.u64.wrap ((rdiv d k).tdiv 256)
def rbyte (g:Nat→Int) (j:Nat):Int:=IntKind.u8.wrap (IntKind.u64.wrap ((rdiv (g (j/4)) (j % 4)).tmod 256))
def pad (L:Nat) (g:Nat→Int) (i:Nat):Int:=match Nat.blt i L with|true=>g i|false=>0
theorem run_rBytes_0 (g:Nat→Int):callN (envG G) 60 3 108 [.d (.nums .u64 false ((List.range 0).map g)),.d (.int .i64 48)]=some ⟨[.d (.nums .u8 false ((List.range 48).map fun j=>rbyte (pad 0 g) (47-j)))],[0]⟩:=by kernel_rfl
theorem run_rBytes_1 (g:Nat→Int):callN (envG G) 60 3 108 [.d (.nums .u64 false ((List.range 1).map g)),.d (.int .i64 48)]=some ⟨[.d (.nums .u8 false ((List.range 48).map fun j=>rbyte (pad 1 g) (47-j)))],[0]⟩:=by kernel_rfl
theorem run_rBytes_2 (g:Nat→Int):callN (envG G) 60 3 108 [.d (.nums .u64 false ((List.range 2).map g)),.d (.int .i64 48)]=some ⟨[.d (.nums .u8 false ((List.range 48).map fun j=>rbyte (pad 2 g) (47-j)))],[0]⟩:=by kernel_rfl
theorem run_rBytes_3 (g:Nat→Int):callN (envG G) 60 3 108 [.d (.nums .u64 false ((List.range 3).map g)),.d (.int .i64 48)]=some ⟨[.d (.nums .u8 false ((List.range 48).map fun j=>rbyte (pad 3 g) (47-j)))],[0]⟩:=by kernel_rfl
theorem run_rBytes_4 (g:Nat→Int):callN (envG G) 60 3 108 [.d (.nums .u64 false ((List.range 4).map g)),.d (.int .i64 48)]=some ⟨[.d (.nums .u8 false ((List.range 48).map fun j=>rbyte (pad 4 g) (47-j)))],[0]⟩:=by kernel_rfl
theorem run_rBytes_5 (g:Nat→Int):callN (envG G) 60 3 108 [.d (.nums .u64 false ((List.range 5).map g)),.d (.int .i64 48)]=some ⟨[.d (.nums .u8 false ((List.range 48).map fun j=>rbyte (pad 5 g) (47-j)))],[0]⟩:=by kernel_rfl
theorem run_rBytes_6 (g:Nat→Int):callN (envG G) 60 3 108 [.d (.nums .u64 false ((List.range 6).map g)),.d (.int .i64 48)]=some ⟨[.d (.nums .u8 false ((List.range 48).map fun j=>rbyte (pad 6 g) (47-j)))],[0]⟩:=by kernel_rfl
theorem run_rBytes_7 (g:Nat→Int):callN (envG G) 60 3 108 [.d (.nums .u64 false ((List.range 7).map g)),.d (.int .i64 48)]=some ⟨[.d (.nums .u8 false ((List.range 48).map fun j=>rbyte (pad 7 g) (47-j)))],[0]⟩:=by kernel_rfl
theorem run_rBytes_8 (g:Nat→Int):callN (envG G) 60 3 108 [.d (.nums .u64 false ((List.range 8).map g)),.d (.int .i64 48)]=some ⟨[.d (.nums .u8 false ((List.range 48).map fun j=>rbyte (pad 8 g) (47-j)))],[0]⟩:=by kernel_rfl
theorem run_rBytes_9 (g:Nat→Int):callN (envG G) 60 3 108 [.d (.nums .u64 false ((List.range 9).map g)),.d (.int .i64 48)]=some ⟨[.d (.nums .u8 false ((List.range 48).map fun j=>rbyte (pad 9 g) (47-j)))],[0]⟩:=by kernel_rfl
theorem run_rBytes_10 (g:Nat→Int):callN (envG G) 60 3 108 [.d (.nums .u64 false ((List.range 10).map g)),.d (.int .i64 48)]=some ⟨[.d (.nums .u8 false ((List.range 48).map fun j=>rbyte (pad 10 g) (47-j)))],[0]⟩:=by kernel_rfl
theorem run_rBytes_11 (g:Nat→Int):callN (envG G) 60 3 108 [.d (.nums .u64 false ((List.range 11).map g)),.d (.int .i64 48)]=some ⟨[.d (.nums .u8 false ((List.range 48).map fun j=>rbyte (pad 11 g) (47-j)))],[0]⟩:=by kernel_rfl
theorem run_rBytes_12 (g:Nat→Int):callN (envG G) 60 3 108 [.d (.nums .u64 false ((List.range 12).map g)),.d (.int .i64 48)]=some ⟨[.d (.nums .u8 false ((List.range 48).map fun j=>rbyte (pad 12 g) (47-j)))],[0]⟩:=by kernel_rfl
theorem run_rBytes (g:Nat→Int): ∀L,L≤12→callN (envG G) 60 3 108 [.d (.nums .u64 false ((List.range L).map g)),.d (.int .i64 48)]=some ⟨[.d (.nums .u8 false ((List.range 48).map fun j=>rbyte (pad L g) (47-j)))],[0]⟩
 |0,_=>run_rBytes_0 (G:=G) g
 |1,_=>run_rBytes_1 (G:=G) g
 |2,_=>run_rBytes_2 (G:=G) g
 |3,_=>run_rBytes_3 (G:=G) g
 |4,_=>run_rBytes_4 (G:=G) g
 |5,_=>run_rBytes_5 (G:=G) g
 |6,_=>run_rBytes_6 (G:=G) g
 |7,_=>run_rBytes_7 (G:=G) g
 |8,_=>run_rBytes_8 (G:=G) g
 |9,_=>run_rBytes_9 (G:=G) g
 |10,_=>run_rBytes_10 (G:=G) g
 |11,_=>run_rBytes_11 (G:=G) g
 |12,_=>run_rBytes_12 (G:=G) g
 |n+13,h=>by omega
def from8 (b:Nat→Int):Nat→Int
 |0=>0
 |r+1=>orI .u64 (from8 b r) (IntKind.u64.wrap (IntKind.u64.wrap (b r)*2^(min (8*r) 64)))
def L6 (g:Nat→Int):List Int:=(List.range 6).map fun k=>from8 (fun r=>g (47-(8*k+r))) 8
def to6 (g:Nat→Int) (L k:Nat):Int:=match Nat.blt (2*k+1) L with
 |true=>IntKind.u64.wrap (g (2*k)+IntKind.u64.wrap (g (2*k+1)*4294967296))
 |false=>match Nat.blt (2*k) L with
  |true=>g (2*k)
  |false=>0
end Go.Proofs.YthpmkmogoejjpaaGreatDoor
set_option linter.unusedSimpArgs false
set_option linter.unusedVariables false
namespace Go.Proofs.YthpmkmogoejjpaaGreatDoor
open Go Go.VM
set_option maxRecDepth 100000
theorem u8_wrap (x:Int):IntKind.u8.wrap x=x % 256:=by
 show Int.emod _ _=_
 rfl
theorem u64_wrap (x:Int):IntKind.u64.wrap x=x % 18446744073709551616:=by
 show Int.emod _ _=_
 rfl
theorem byteOf_eq {x:Int} (h:0≤x∧x<18446744073709551616) (g:List Int) (q r:Nat) (hr:r<8) (hg:g.getD q 0=x):byteOf g (8*q+r)=x/256^r % 256:=by
 unfold byteOf
 rw[show (8*q+r)/8=q by omega,show (8*q+r) % 8=r by omega,hg,u8_wrap,u64_wrap]
 have:r=0∨r=1∨r=2∨r=3∨r=4∨r=5∨r=6∨r=7:=by omega
 rcases this with rfl|rfl|rfl|rfl|rfl|rfl|rfl|rfl<;>simp only[Nat.reduceMul,Int.reducePow,Int.fdiv_eq_ediv_of_nonneg,Int.reduceLE]<;>
  (first|(rw[Int.fdiv_eq_ediv_of_nonneg _ (by omega)];omega)|omega)
theorem rbyte_eq {x:Int} (h:0≤x∧x<4294967296) (g:Nat→Int) (q r:Nat) (hr:r<4) (hg:g q=x):rbyte g (4*q+r)=x/256^r % 256:=by
 unfold rbyte
 rw[show (4*q+r)/4=q by omega,show (4*q+r) % 4=r by omega,hg,u8_wrap,u64_wrap]
 have hd: ∀r,r<4→rdiv x r=x/256^r∧0≤x/256^r∧x/256^r<4294967296:=by
  intro r
  induction r with
  |zero=>intro _;simp[rdiv];omega
  |succ r ih=>
   intro hr
   obtain⟨h1,h2,h3⟩:=ih (by omega)
   have h4:x/256^(r+1)=x/256^r/256:=by
    rw[Int.pow_succ,Int.ediv_ediv_of_nonneg (Int.pow_nonneg (by omega))]
   simp only[rdiv,h1,h4,u64_wrap]
   rw[Int.tdiv_eq_ediv_of_nonneg h2]
   omega
 obtain⟨h1,h2,h3⟩:=hd r hr
 rw[h1,Int.tmod_eq_emod_of_nonneg h2]
 omega
theorem pad_trim (l:List Int) (i:Nat):pad (trimL l).length (fun j=>l.getD j 0) i=l.getD i 0:=by
 unfold pad
 by_cases h:i<(trimL l).length
 ·rw[show Nat.blt i (trimL l).length=true by simpa[Nat.blt_eq] using h]
 ·rw[show Nat.blt i (trimL l).length=false by simpa[Nat.blt_eq] using h]
  rw[trimL_len] at h
  rcases Nat.lt_or_ge i l.length with h2|h2
  ·exact(cutL_max l l.length i (by omega) h2).symm
  ·simp[List.getD,List.getElem?_eq_none h2]
theorem trim_map (l:List Int):trimL l=(List.range (trimL l).length).map fun j=>l.getD j 0:=by
 apply List.ext_getElem?
 intro i
 rcases Nat.lt_or_ge i (trimL l).length with h|h
 ·have h2:=trimL_len l
  have h3:=cutL_le l l.length
  rw[List.getElem?_map,List.getElem?_range h]
  unfold trimL
  rw[List.getElem?_take_of_lt (by omega),List.getElem?_eq_getElem (by omega)]
  simp[List.getD,List.getElem?_eq_getElem (show i<l.length by omega)]
 ·rw[List.getElem?_eq_none h,List.getElem?_eq_none (by simpa using h)]
theorem halves_lo: ∀(a:List Int) (i:Nat),(halves a).getD (2*i) 0=a.getD i 0 % 4294967296
 |[],i=>by simp[halves]
 |x::t,0=>by simp[halves]
 |x::t,i+1=>by
  have:=halves_lo t i
  rw[show 2*(i+1)=2*i+2 by omega]
  simpa[halves] using this
theorem halves_hi: ∀(a:List Int) (i:Nat),(halves a).getD (2*i+1) 0=a.getD i 0/4294967296
 |[],i=>by simp[halves]
 |x::t,0=>by simp[halves]
 |x::t,i+1=>by
  have:=halves_hi t i
  rw[show 2*(i+1)+1=2*i+1+2 by omega]
  simpa[halves] using this
theorem getD_in64 {a:List Int} (h:In64 a) (i:Nat):0≤a.getD i 0∧a.getD i 0<18446744073709551616:=by
 rcases Nat.lt_or_ge i a.length with h1|h1
 ·have:a.getD i 0=a[i]:=by simp[List.getD,h1]
  rw[this]
  exact h _ (List.getElem_mem h1)
 ·have:a.getD i 0=0:=by simp[List.getD,List.getElem?_eq_none h1]
  omega
theorem rbytes_eq {a:List Int} (h:In64 a):((List.range 48).map fun j=>rbyte (pad (trimL (halves a)).length (fun j=>(halves a).getD j 0)) (47-j))=B6 a:=by
 refine List.map_congr_left fun j hj=> ?_
 have hj:j<48:=List.mem_range.1 hj
 generalize hk:47-j=k
 have hx:=getD_in64 h (k/8)
 obtain⟨q,r,hq,hr⟩: ∃q r,k=8*q+r∧r<8:=⟨k/8,k % 8,by omega,by omega⟩
 rw[show k/8=q by omega] at hx
 have hb:=byteOf_eq hx a q r hr rfl
 rw[hq,hb]
 rcases Nat.lt_or_ge r 4 with h4|h4
 ·have hl:pad (trimL (halves a)).length (fun j=>(halves a).getD j 0) (2*q)=a.getD q 0 % 4294967296:=by rw[pad_trim,halves_lo]
  have:=rbyte_eq (x:=a.getD q 0 % 4294967296) (by omega) _ (2*q) r h4 hl
  rw[show 4*(2*q)+r=8*q+r by omega] at this
  rw[this]
  have:r=0∨r=1∨r=2∨r=3:=by omega
  rcases this with rfl|rfl|rfl|rfl<;>simp only[Int.reducePow]<;>omega
 ·have hl:pad (trimL (halves a)).length (fun j=>(halves a).getD j 0) (2*q+1)=a.getD q 0/4294967296:=by rw[pad_trim,halves_hi]
  have:=rbyte_eq (x:=a.getD q 0/4294967296) (by omega) _ (2*q+1) (r-4) (by omega) hl
  rw[show 4*(2*q+1)+(r-4)=8*q+r by omega] at this
  rw[this]
  have:r=4∨r=5∨r=6∨r=7:=by omega
  rcases this with rfl|rfl|rfl|rfl<;>simp only[Nat.reduceSub,Int.reducePow]<;>omega
end Go.Proofs.YthpmkmogoejjpaaGreatDoor
set_option linter.unusedSimpArgs false
set_option linter.unusedVariables false
namespace Go.Proofs.YthpmkmogoejjpaaGreatDoor
open Go Go.VM
set_option maxRecDepth 100000
theorem or_add {x b s:Nat} (hx:x<2^s) (hb:b<256) (hs:s+8≤64):orI .u64 (x:Int) ((b*2^s:Nat):Int)=((x+b*2^s:Nat):Int):=by
 have h2:2^s*256≤2^64:=by
  have:=Nat.pow_le_pow_right (n:=2) (by omega) hs
  rwa [Nat.pow_add] at this
 have hP:0<2^s:=Nat.pow_pos (by omega)
 have h3:b*2^s≤255*2^s:=Nat.mul_le_mul_right _ (by omega)
 have h4:2^s*b+x=2^s*b|||x:=Nat.two_pow_add_eq_or_of_lt hx b
 have e1:(BitVec.ofInt 64 (x:Int)).toNat=x:=by simp[BitVec.toNat_ofInt];omega
 have e2:(BitVec.ofInt 64 ((b*2^s:Nat):Int)).toNat=b*2^s:=by
  rw[BitVec.toNat_ofInt]
  generalize b*2^s=y at*
  omega
 have hq:orI .u64 (x:Int) ((b*2^s:Nat):Int)=IntKind.u64.wrap ((BitVec.ofInt 64 (x:Int)|||BitVec.ofInt 64 ((b*2^s:Nat):Int)).toNat:Int):=rfl
 rw[hq,BitVec.toNat_or,e1,e2,Nat.or_comm,Nat.mul_comm b,←h4,u64_wrap]
 rw[Nat.mul_comm b,Nat.mul_comm 255] at h3
 generalize 2^s*b=y at*
 omega
def sum8 (b:Nat→Int):Nat→Int
 |0=>0
 |r+1=>sum8 b r+b r*256^r
theorem from8_eq (b:Nat→Int) (hb: ∀r,0≤b r∧b r<256): ∀r,r≤8→from8 b r=sum8 b r∧0≤sum8 b r∧sum8 b r<256^r
 |0,_=>by simp[from8,sum8]
 |r+1,h=>by
  obtain⟨h1,h2,h3⟩:=from8_eq b hb r (by omega)
  have hbr:=hb r
  obtain⟨x,hx⟩:=Int.eq_ofNat_of_zero_le h2
  obtain⟨y,hy⟩:=Int.eq_ofNat_of_zero_le hbr.1
  have hp:(256:Int)^r=((2^(8*r):Nat):Int):=by
   rw[Nat.pow_mul];simp
  have h5:(2:Int)^(8*r)=((2^(8*r):Nat):Int):=by simp
  have hx2:x<2^(8*r):=by rw[hp,hx] at h3;exact_mod_cast h3
  have h4:=or_add (x:=x) (b:=y) (s:=8*r) hx2 (by omega) (by omega)
  have h6:2^(8*r)*256≤2^64:=by
   have:2^(8*r)*2^8≤2^64:=by
    rw[←Nat.pow_add]
    exact Nat.pow_le_pow_right (by omega) (by omega)
   exact this
  have h7:y*2^(8*r)≤255*2^(8*r):=Nat.mul_le_mul_right _ (by omega)
  have e:from8 b (r+1)=sum8 b (r+1):=by
   simp only[from8,sum8,h1]
   rw[show min (8*r) 64=8*r by omega,u64_wrap (b r),Int.emod_eq_of_lt hbr.1 (by omega),h5,hp,hx,hy,u64_wrap]
   have:((y:Int)*((2^(8*r):Nat):Int)) % 18446744073709551616=((y*2^(8*r):Nat):Int):=by
    rw[←Int.natCast_mul]
    generalize y*2^(8*r)=z at*
    generalize 2^(8*r)=p at*
    omega
   rw[this,h4]
   push_cast
   rfl
  refine⟨e, ?_, ?_⟩
  ·simp only[sum8]
   have:=Int.mul_nonneg hbr.1 (Int.pow_nonneg (show (0:Int)≤256 by omega):(0:Int)≤256^r)
   omega
  ·simp only[sum8,Int.pow_succ]
   have hP:(0:Int)≤256^r:=Int.pow_nonneg (by omega)
   have:=Int.mul_le_mul_of_nonneg_right (show b r≤255 by omega) hP
   omega
theorem wL_inj: ∀ {a b:List Int},a.length=b.length→In64 a→In64 b→wL a=wL b→a=b
 |[],[],_,_,_,_=>rfl
 |[],_::_,h,_,_,_=>by cases h
 |_::_,[],h,_,_,_=>by cases h
 |x::a,y::b,h,ha,hb,he=>by
  have hx:=ha x (List.mem_cons_self ..)
  have hy:=hb y (List.mem_cons_self ..)
  simp only[wL] at he
  have h1:x=y:=by omega
  have h2:wL a=wL b:=by omega
  rw[h1,wL_inj (by simpa using h) (fun z hz=>ha z (List.mem_cons_of_mem _ hz)) (fun z hz=>hb z (List.mem_cons_of_mem _ hz)) h2]
end Go.Proofs.YthpmkmogoejjpaaGreatDoor
