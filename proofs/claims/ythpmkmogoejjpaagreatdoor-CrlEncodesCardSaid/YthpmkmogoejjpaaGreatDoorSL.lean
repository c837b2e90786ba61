/- A signature's bytes are told in one way: plain. -/
import Derived.Test.YthpmkmogoejjpaaGreatDoorSJ
import Derived.Test.YthpmkmogoejjpaaGreatDoorSG
import Derived.Test.YthpmkmogoejjpaaGreatDoorSI
import Derived.Test.YthpmkmogoejjpaaGreatDoorSF
import Derived.Test.YthpmkmogoejjpaaGreatDoorSK
set_option linter.unusedSimpArgs false
set_option linter.unusedVariables false
namespace Go.Proofs.YthpmkmogoejjpaaGreatDoor
open Go Go.VM
set_option maxRecDepth 100000
set_option maxHeartbeats 4000000
theorem val_lt: ∀ {b:List Int},(∀c∈b,0≤c∧c<256)→val 0 b<256^b.length
 |[],_=>by simp[val]
 |x::t,h=>by
  have ih:=val_lt (b:=t) fun c hc=>h c (List.mem_cons_of_mem _ hc)
  have hx:=h x (by simp)
  have e:val 0 (x::t)=x*256^t.length+val 0 t:=by
   show val (0*256+x) t=_
   rw[Int.zero_mul,Int.zero_add,val_acc]
  rw[e,List.length_cons,Int.pow_succ]
  have hP:(0:Int)≤256^t.length:=Int.pow_nonneg (by omega)
  have:=Int.mul_le_mul_of_nonneg_right (show x≤255 by omega) hP
  omega
theorem val_inj: ∀ {u v:List Int},u.length=v.length→(∀c∈u,0≤c∧c<256)→(∀c∈v,0≤c∧c<256)→val 0 u=val 0 v→u=v
 |[],[],_,_,_,_=>rfl
 |[],_::_,h,_,_,_=>by cases h
 |_::_,[],h,_,_,_=>by cases h
 |x::s,y::t,hl,hu,hv,he=>by
  have hl' :s.length=t.length:=by simpa using hl
  have e: ∀(x:Int) (t:List Int),val 0 (x::t)=x*256^t.length+val 0 t:=fun x t=>by
   show val (0*256+x) t=_
   rw[Int.zero_mul,Int.zero_add,val_acc]
  rw[e,e,hl'] at he
  have su:=fun c hc=>hu c (List.mem_cons_of_mem x hc)
  have sv:=fun c hc=>hv c (List.mem_cons_of_mem y hc)
  have a1:=val_nonneg su
  have a2:=val_nonneg sv
  have b1:=val_lt su
  have b2:=val_lt sv
  rw[hl'] at b1
  have hP:(0:Int)<256^t.length:=Int.pow_pos (by omega)
  generalize (256:Int)^t.length=P at*
  have hxy:x=y:=by
   rcases Int.lt_trichotomy x y with h|h|h
   ·have:=Int.mul_le_mul_of_nonneg_right (show x+1≤y by omega) (show 0≤P by omega)
    rw[Int.add_mul] at this
    omega
   ·exact h
   ·have:=Int.mul_le_mul_of_nonneg_right (show y+1≤x by omega) (show 0≤P by omega)
    rw[Int.add_mul] at this
    omega
  subst hxy
  rw[val_inj hl' su sv (by omega)]
theorem strip_zeros: ∀(k:Nat) (b:List Int),strip (List.replicate k 0++b)=strip b
 |0,b=>rfl
 |k+1,b=>by simp[List.replicate_succ,strip,strip_zeros k b]
def sigB (b:List Int):Option (List Int×List Int):=
 match parseB b with
 | .ok x=>(match sigOf x with
  | .inr p=>some p
  | .inl _=>none)
 | .bad _ _=>none
end Go.Proofs.YthpmkmogoejjpaaGreatDoor
set_option linter.unusedSimpArgs false
set_option linter.unusedVariables false
namespace Go.Proofs.YthpmkmogoejjpaaGreatDoor
open Go Go.VM
variable {G : GE}
set_option maxRecDepth 100000
set_option maxHeartbeats 4000000
def Tlv.bits:Tlv→Option (List Int)
 | .mk c t m _ (0::b) _ _=>if c=0∧t=3∧m=false then some b else none
 |_=>none
end Go.Proofs.YthpmkmogoejjpaaGreatDoor
set_option linter.unusedSimpArgs false
set_option linter.unusedVariables false
namespace Go.Proofs.YthpmkmogoejjpaaGreatDoor
open Go Go.VM
variable {G : GE}
set_option maxRecDepth 100000
set_option maxHeartbeats 4000000
end Go.Proofs.YthpmkmogoejjpaaGreatDoor
set_option linter.unusedSimpArgs false
set_option linter.unusedVariables false
namespace Go.Proofs.YthpmkmogoejjpaaGreatDoor
open Go Go.VM
variable {G : GE}
set_option maxRecDepth 100000
set_option maxHeartbeats 4000000
end Go.Proofs.YthpmkmogoejjpaaGreatDoor
set_option linter.unusedSimpArgs false
set_option linter.unusedVariables false
namespace Go.Proofs.YthpmkmogoejjpaaGreatDoor
open Go Go.VM
variable {G : GE}
set_option maxRecDepth 100000
set_option maxHeartbeats 4000000
def rdr (nl:Bool) (b:List Int) (x y:Int):Option Blk:=some (.cells false [.d (.nums .u8 nl b),.d (.int .i64 x),.d (.int .i64 y)])
theorem t_rfail (F n:Nat) (nl:Bool) (b:List Int) (x y c p:Int):
  callP (envG G) F (n+1) 132 [.ptr 0 0,.d (.int .i64 c),.d (.int .i64 p)] [rdr nl b x y] []=some ⟨[],[],[rdr nl b c p],[]⟩:=by
 unfold rdr
 rw[callP_run (fn:=Tryz.f132) rfl rfl rfl (by simp[Tryz.ntmps132])]
 generalize hC:(envG G).ctx 132 (callN (envG G) F (n)) (callP (envG G) F (n))=C
 have htt:C.tt=(envG G).tt:=by rw[←hC];rfl
 have hlin:C.lin=[]:=by rw[←hC];rfl
 have hreg:C.reg=reg132:=by rw[←hC];rfl
 have hcall:C.call=callN (envG G) F (n):=by rw[←hC];rfl
 have hcallP:C.callP=callP (envG G) F (n):=by rw[←hC];rfl
 simp[htt,hlin,hreg,reg132,hcall,hcallP]
theorem loop_rlen {m:Nat} {C:Ctx} {F:Nat} (hC:(envG G).ctx 133 (callN (envG G) F (m)) (callP (envG G) F (m))=C) {c:Code} (hc:loopAt 16 Tryz.f133=some c) (b:List Int) (i q:Nat) (hb: ∀c∈b,0≤c∧c<256) (hq:q≤3) (hi:i≤1048577) (hin:i+1+q≤b.length) (nl:Bool) (x y:Int):
  ∀(u j k:Nat) (st:St),j+u=q→u<k→
   st.trim 1 [0,1,9,10,11]=⟨[(0,.ptr 0 0),(1,.d (.int .i64 i)),(9,.d (.int .i64 q)),(10,.d (.int .i64 (beN b (i+1) j))),(11,.d (.int .i64 ((j:Int)+1)))],[rdr nl b x y],[]⟩→
   iter (ev C F c) 1 [0,1,9,10,11] [0,1,6,7,9,10] k st=some (.exit 0,⟨[(0,.ptr 0 0),(1,.d (.int .i64 i)),(9,.d (.int .i64 q)),(10,.d (.int .i64 (beN b (i+1) q)))],[rdr nl b x y],[]⟩):=by
 have htt:C.tt=(envG G).tt:=by rw[←hC];rfl
 have hlin:C.lin=[]:=by rw[←hC];rfl
 have hreg:C.reg=reg133:=by rw[←hC];rfl
 have hcall:C.call=callN (envG G) F (m):=by rw[←hC];rfl
 have hcallP:C.callP=callP (envG G) F (m):=by rw[←hC];rfl
 have hlv_16:C.live 16=[0,1,9,10,11]:=by rw[←hC];rfl
 have hlv_100016:C.live 100016=[0,1,6,7,9,10]:=by rw[←hC];rfl
 have hev: ∀st,ev C F c st=ev C F ((loopAt 16 Tryz.f133).getD .skip) st:=fun st=>by rw[hc];rfl
 unfold rdr
 intro u
 induction u with
 |zero=>
  intro j k st hj hk hst
  obtain⟨k,rfl⟩: ∃j,k=j+1:=⟨k-1,by omega⟩
  have e0: ¬((j:Int)+1≤(q:Int)):=by omega
  have e0' :((q:Int)<(j:Int)+1):=by omega
  have hjq:j=q:=by omega
  subst hjq
  rw[iter_eq,hst,hev]
  simp[loopAt,findLoop,Tryz.f133,htt,hlin,hreg,reg133,hcall,hcallP,hlv_16,hlv_100016,e0,e0']
 |succ u ih=>
  intro j k st hj hk hst
  obtain⟨k,rfl⟩: ∃j,k=j+1:=⟨k-1,by omega⟩
  have e0:((j:Int)+1≤(q:Int)):=by omega
  have e0' : ¬((q:Int)<(j:Int)+1):=by omega
  have ra:=byteAt_get (b:=b) (i:=i+1+j) (by omega)
  have h1:=beN_ok hb (i+1) j
  have h2:=byteAt_ok hb (i+1+j)
  have hp:(256:Int)^j≤65536:=by
   have:j=0∨j=1∨j=2:=by omega
   rcases this with rfl|rfl|rfl<;>decide
  have ih' :=fun st h=>ih (j+1) k st (by omega) (by omega) h
  simp only[beN] at ih'
  have e1:(j:Int)+1+1≤9223372036854775807:=by omega
  have e2:(-9223372036854775808:Int)≤(j:Int)+1+1:=by omega
  have e3:256*beN b (i+1) j≤9223372036854775807:=by omega
  have e4:(-9223372036854775808:Int)≤256*beN b (i+1) j:=by omega
  have e5:byteAt b (i+1+j)≤9223372036854775807:=by omega
  have e6:(-9223372036854775808:Int)≤byteAt b (i+1+j):=by omega
  have e7:256*beN b (i+1) j+byteAt b (i+1+j)≤9223372036854775807:=by omega
  have e8:(-9223372036854775808:Int)≤256*beN b (i+1) j+byteAt b (i+1+j):=by omega
  have e9:(i:Int)+((j:Int)+1)≤9223372036854775807:=by omega
  have e10:(-9223372036854775808:Int)≤(i:Int)+((j:Int)+1):=by omega
  have e11:(0:Int)≤(i:Int)+((j:Int)+1):=by omega
  have n1:((i:Int)+((j:Int)+1)).toNat=i+1+j:=by omega
  rw[iter_eq,hst,hev]
  generalize beN b (i+1) j=v at*
  generalize byteAt b (i+1+j)=x at*
  simp[loopAt,findLoop,Tryz.f133,htt,hlin,hreg,reg133,hcall,hcallP,hlv_16,hlv_100016,e0,e0',e1,e2,e3,e4,e5,e6,e7,e8,e9,e10,e11,n1,ra]
  simp at ih'
  exact ih' _ (by simp)
end Go.Proofs.YthpmkmogoejjpaaGreatDoor
set_option linter.unusedSimpArgs false
set_option linter.unusedVariables false
namespace Go.Proofs.YthpmkmogoejjpaaGreatDoor
open Go Go.VM
variable {G : GE}
set_option maxRecDepth 100000
set_option maxHeartbeats 4000000
def rlenV (nl:Bool) (b:List Int) (y:Int):Res (Nat×Nat)→Hand
 | .ok (v,f)=>⟨[.d (.int .i64 v),.d (.int .i64 f)],[],[rdr nl b 0 y],[]⟩
 | .bad c p=>⟨[.d (.int .i64 0),.d (.int .i64 0)],[],[rdr nl b c p],[]⟩
theorem t_rlength (F n:Nat) (hF:4<F) (b:List Int) (nl:Bool) (hb: ∀c∈b,0≤c∧c<256) (hlen:b.length≤1048576) (i stop:Nat) (hs:stop≤b.length) (hi:i≤1048577) (y:Int):
  callP (envG G) F (n+2) 133 [.ptr 0 0,.d (.int .i64 i),.d (.int .i64 stop)] [rdr nl b 0 y] []=some (rlenV nl b y (lenB b i stop)):=by
 have ks:=fun c p=>t_rfail (G:=G) F n nl b 0 y c p
 have g0:=byteAt_ok hb i
 have g1:=byteAt_ok hb (i+1)
 rw[callP_run (fn:=Tryz.f133) rfl rfl rfl (by simp[Tryz.ntmps133])]
 generalize hC:(envG G).ctx 133 (callN (envG G) F (n+1)) (callP (envG G) F (n+1))=C
 have htt:C.tt=(envG G).tt:=by rw[←hC];rfl
 have hlin:C.lin=[]:=by rw[←hC];rfl
 have hreg:C.reg=reg133:=by rw[←hC];rfl
 have hcall:C.call=callN (envG G) F (n+1):=by rw[←hC];rfl
 have hcallP:C.callP=callP (envG G) F (n+1):=by rw[←hC];rfl
 have hlv_16:C.live 16=[0,1,9,10,11]:=by rw[←hC];rfl
 have hlv_100016:C.live 100016=[0,1,6,7,9,10]:=by rw[←hC];rfl
 have hL:=fun q hq hin u j k st=>loop_rlen (G:=G) hC rfl b i q hb hq hi hin nl 0 y u j k st
 clear hC
 unfold rdr at ks hL⊢
 have e1:(i:Int)+1≤9223372036854775807:=by omega
 have e2:(-9223372036854775808:Int)≤(i:Int)+1:=by omega
 by_cases c1:stop≤i
 ·have hsp:lenB b i stop= .bad 6 i:=by simp[lenB,c1]
  have f1:(stop:Int)≤(i:Int):=by omega
  rw[hsp]
  simp[htt,hlin,hreg,reg133,hcall,hcallP,hlv_16,hlv_100016,ks,f1,rlenV,rdr]
 ·have f1: ¬(stop:Int)≤(i:Int):=by omega
  have r0:=byteAt_get (b:=b) (i:=i) (by omega)
  have e7:byteAt b i≤9223372036854775807:=by omega
  have e8:(-9223372036854775808:Int)≤byteAt b i:=by omega
  by_cases c2:byteAt b i<128
  ·have hsp:lenB b i stop= .ok ((byteAt b i).toNat,i+1):=by simp[lenB,c1,c2]
   have e9:((byteAt b i).toNat:Int)=byteAt b i:=by omega
   rw[hsp]
   simp only[rlenV,rdr,Int.natCast_add,e9]
   simp[htt,hlin,hreg,reg133,hcall,hcallP,hlv_16,hlv_100016,ks,f1,r0,e1,e2,e7,e8,c2]
  ·by_cases c3:byteAt b i=128∨131<byteAt b i
   ·have hsp:lenB b i stop= .bad 7 i:=by simp[lenB,c1,c2,c3]
    rw[hsp]
    generalize byteAt b i=v at*
    by_cases f2:v=128
    ·subst f2
     simp[htt,hlin,hreg,reg133,hcall,hcallP,hlv_16,hlv_100016,ks,f1,r0,e1,e2,e7,e8,rlenV,rdr]
    ·have f3:131<v:=by omega
     simp[htt,hlin,hreg,reg133,hcall,hcallP,hlv_16,hlv_100016,ks,f1,r0,e1,e2,e7,e8,c2,f2,f3,rlenV,rdr]
   ·obtain⟨q,hq0,hq3,hqv⟩: ∃q:Nat,1≤q∧q≤3∧byteAt b i=128+q:=⟨(byteAt b i-128).toNat,by omega,by omega,by omega⟩
    have hq:(byteAt b i-128).toNat=q:=by omega
    have f0: ¬(128+(q:Int)<128):=by omega
    have f2: ¬(128+(q:Int)=128):=by omega
    have f3: ¬(131<128+(q:Int)):=by omega
    have f6:128+(q:Int)-128=q:=by omega
    have e5:128+(q:Int)≤9223372036854775807:=by omega
    have e6:(-9223372036854775808:Int)≤128+(q:Int):=by omega
    have e9:(q:Int)≤9223372036854775807:=by omega
    have e10:(-9223372036854775808:Int)≤(q:Int):=by omega
    have e11:(i:Int)+1+q≤9223372036854775807:=by omega
    have e12:(-9223372036854775808:Int)≤(i:Int)+1+q:=by omega
    by_cases c4:stop<i+1+q
    ·have hsp:lenB b i stop= .bad 6 i:=by simp[lenB,c1,c2,c3,hq,c4]
     have f5:(stop:Int)<(i:Int)+1+q:=by omega
     rw[hsp]
     rw[hqv] at r0
     simp[htt,hlin,hreg,reg133,hcall,hcallP,hlv_16,hlv_100016,ks,f1,r0,e1,e2,e5,e6,e9,e10,e11,e12,f0,f2,f3,f5,f6,rlenV,rdr]
    ·have f5: ¬(stop:Int)<(i:Int)+1+q:=by omega
     have r1:=byteAt_get (b:=b) (i:=i+1) (by omega)
     have hv:=beN_ok hb (i+1) q
     have f9:(0:Int)≤(i:Int)+1:=by omega
     have n1:((i:Int)+1).toNat=i+1:=by omega
     have hL1:=fun st h=>hL q hq3 (by omega) q 0 F st (by omega) (by omega) h
     have spc:lenB b i stop=if byteAt b (i+1)=0∨beN b (i+1) q<128 then .bad 7 i else .ok ((beN b (i+1) q).toNat,i+1+q):=by
      simp only[lenB,if_neg c1,if_neg c2,if_neg c3,hq,if_neg c4]
     rw[spc]
     rw[hqv] at r0
     clear spc hqv hq c2 c3 e7 e8 g0
     simp only[beN] at hL1
     simp at hL1
     generalize beN b (i+1) q=v at*
     generalize byteAt b (i+1)=x at*
     simp[htt,hlin,hreg,reg133,hcall,hcallP,hlv_16,hlv_100016,ks,f1,r0,e1,e2,e5,e6,e9,e10,e11,e12,f0,f2,f3,f5,f6,f9,n1,ev_loop]
     rw[hL1 _ (by simp)]
     by_cases c5:x=0
     ·simp[htt,hlin,hreg,reg133,hcall,hcallP,hlv_16,hlv_100016,ks,r1,n1,f9,e1,e2,c5,rlenV,rdr]
     ·by_cases c6:v<128
      ·simp[htt,hlin,hreg,reg133,hcall,hcallP,hlv_16,hlv_100016,ks,r1,n1,f9,e1,e2,c5,c6,rlenV,rdr]
      ·have e19:(v.toNat:Int)=v:=by omega
       simp[htt,hlin,hreg,reg133,hcall,hcallP,hlv_16,hlv_100016,ks,r1,n1,f9,e1,e2,c5,c6,e11,e12,e19,rlenV,rdr]
end Go.Proofs.YthpmkmogoejjpaaGreatDoor
