/- What der.Parse hands back. -/
import Derived.Test.YthpmkmogoejjpaaGreatDoorSF
import Derived.Test.YthpmkmogoejjpaaGreatDoorSC
set_option linter.unusedSimpArgs false
set_option linter.unusedVariables false
namespace Go.Proofs.YthpmkmogoejjpaaGreatDoor
open Go Go.VM
variable {G : GE}
set_option maxRecDepth 100000
set_option maxHeartbeats 4000000
def atD (c p:Int):D:=if p<0 then err c else spotD c p
def parseV:Res Tlv→List V
 | .ok x=>[.d (.agg x.cells),.d .nilifc]
 | .bad c p=>[.d (.agg zeroT.cells),.d (atD c p)]
theorem elemB_place: ∀ {b:List Int} {d i stop:Nat} {c p:Int},elemB b d i stop= .bad c p→0≤p∧1≤c∧c≤9:=by
 have hlen: ∀ {b:List Int} {i stop:Nat} {c p:Int},lenB b i stop= .bad c p→0≤p∧1≤c∧c≤9:=by
  intro b i stop c p h
  unfold lenB at h
  repeat' (split at h)
  all_goals (first|(injection h with h1 h2;omega)|cases h)
 have hsp: ∀ {b:List Int} {i stop:Nat} {c p:Int},spanB b i stop= .bad c p→0≤p∧1≤c∧c≤9:=by
  intro b i stop c p h
  unfold spanB at h
  split at h
  ·rename_i hl;injection h with h1 h2;subst h1;subst h2;exact hlen hl
  ·split at h
   ·injection h with h1 h2;omega
   ·cases h
 have hk: ∀(g:Nat→Nat→Res (Tlv×Nat)),(∀i t c p,g i t= .bad c p→0≤p∧1≤c∧c≤9)→ ∀(k fr to:Nat) (c p:Int),kidsB g k fr to= .bad c p→0≤p∧1≤c∧c≤9:=by
  intro g hg k
  induction k with
  |zero=>intro fr to c p h;cases h
  |succ k ih=>
   intro fr to c p h
   simp only[kidsB] at h
   split at h
   ·split at h
    ·rename_i h1;injection h with h2 h3;subst h2;subst h3;exact hg _ _ _ _ h1
    ·split at h
     ·rename_i h1;injection h with h2 h3;subst h2;subst h3;exact ih _ _ _ _ h1
     ·cases h
   ·cases h
 intro b d
 induction d with
 |zero=>intro i stop c p h;simp only[elemB] at h;injection h with h1 h2;omega
 |succ d ih=>
  intro i stop c p h
  simp only[elemB] at h
  split at h
  ·injection h with h1 h2;omega
  split at h
  ·injection h with h1 h2;omega
  split at h
  ·rename_i h1;injection h with h2 h3;subst h2;subst h3;exact hsp h1
  split at h
  ·split at h
   ·rename_i h1;injection h with h2 h3;subst h2;subst h3;exact hk _ (fun i t c p h=>ih h) _ _ _ _ _ h1
   ·cases h
  ·cases h
theorem t_Parse (F:Nat) (hF:1048580<F) (n:Nat) (b:List Int) (nl:Bool) (hnl:nl=true→b=[]) (hb: ∀c∈b,0≤c∧c<256):
  callN (envG G) F (n+20) 42 [.d (.nums .u8 nl b)]=some ⟨parseV (parseB b),[]⟩:=by
 have ks: ∀c p,callN (envG G) F (n+19) _ _=_:=fun c p=>t_spot (G:=G) F (n+18) c p
 have ke:b.length≤1048576→callN (envG G) F (n+19) _ _=_:=fun h=>t_delem (G:=G) F hF b nl hnl hb h 16 0 n 0 b.length (by omega) (by omega) (by omega)
 have kp:= @elemB_place b 16 0 b.length
 have ko:=fun x e=>elemB_ok hb 16 0 b.length x e (Nat.le_refl _)
 rw[callN_run (fn:=Tryz.f42) rfl rfl rfl (by simp[Tryz.ntmps42])]
 generalize hC:(envG G).ctx 42 (callN (envG G) F (n+19)) (callP (envG G) F (n+19))=C
 have htt:C.tt=(envG G).tt:=by rw[←hC];rfl
 have hlin:C.lin=[]:=by rw[←hC];rfl
 have hreg:C.reg=reg42:=by rw[←hC];rfl
 have hcall:C.call=callN (envG G) F (n+19):=by rw[←hC];rfl
 have hcallP:C.callP=callP (envG G) F (n+19):=by rw[←hC];rfl
 unfold parseB
 by_cases c1:1048576<b.length
 ·have f1:(1048576:Int)<b.length:=by omega
  simp only[if_pos c1,parseV,atD,err,zeroT,Tlv.cells,Tlv.cellsL]
  simp[htt,hlin,hreg,reg42,hcall,hcallP,f1]
 ·have f1: ¬(1048576:Int)<b.length:=by omega
  have ke' :=ke (by omega)
  clear ke
  rw[if_neg c1]
  generalize elemB b 16 0 b.length=r at*
  cases r with
  |bad c p=>
   have hp:=kp rfl
   simp only[elemV,spotD,err,zeroT,Tlv.cells,Tlv.cellsL] at ke'
   simp at ke'
   simp only[parseV,atD,if_neg (by omega: ¬p<0),spotD,err,zeroT,Tlv.cells,Tlv.cellsL]
   simp[htt,hlin,hreg,reg42,hcall,hcallP,f1,ke']
  |ok r=>
   obtain⟨x,e⟩:=r
   have hx:=ko x e rfl
   have hh:=hx.hi
   clear ko kp hx
   obtain⟨xc,xt,xm,xbn,xb,xkn,xks⟩:=x
   simp only[elemV,Tlv.cells] at ke'
   simp at ke'
   unfold spotD err at ks
   by_cases c2:e<b.length
   ·have f2:(e:Int)<b.length:=by omega
    simp only[if_pos c2,parseV,atD,spotD,err,zeroT,Tlv.cells,Tlv.cellsL,if_neg (by omega: ¬(e:Int)<0)]
    simp[htt,hlin,hreg,reg42,hcall,hcallP,f1,ke',f2,ks]
   ·have f2: ¬(e:Int)<b.length:=by omega
    simp only[if_neg c2,parseV,Tlv.cells]
    simp[htt,hlin,hreg,reg42,hcall,hcallP,f1,ke',f2,ks]
end Go.Proofs.YthpmkmogoejjpaaGreatDoor
set_option linter.unusedSimpArgs false
set_option linter.unusedVariables false
namespace Go.Proofs.YthpmkmogoejjpaaGreatDoor
open Go Go.VM
variable {G : GE}
set_option maxRecDepth 100000
set_option maxHeartbeats 4000000
theorem loop_code {m:Nat} {C:Ctx} {F:Nat} (hC:(envG G).ctx 24 (callN (envG G) F (m)) (callP (envG G) F (m))=C) {c:Code} (hc:loopAt 4 Tryz.f24=some c) (q:Int): ∀(u:Nat) (i:Int) (k:Nat) (st:St),i+u=22→1≤i→u<k→
  st.trim 0 [0,3]=⟨[(0,.d (err q)),(3,.d (.int .i64 i))],[],[]⟩→
  iter (ev C F c) 0 [0,3] [2] k st=if i≤q∧q≤21 then some (.ret,⟨[(2,.d (.int .i64 q))],[],[]⟩) else some (.exit 0,⟨[],[],[]⟩):=by
 have htt:C.tt=(envG G).tt:=by rw[←hC];rfl
 have hlin:C.lin=[]:=by rw[←hC];rfl
 have hreg:C.reg=reg24:=by rw[←hC];rfl
 have hcall:C.call=callN (envG G) F (m):=by rw[←hC];rfl
 have hcallP:C.callP=callP (envG G) F (m):=by rw[←hC];rfl
 have hlv_4:C.live 4=[0,3]:=by rw[←hC];rfl
 have hlv_100004:C.live 100004=[2]:=by rw[←hC];rfl
 have hev: ∀st,ev C F c st=ev C F ((loopAt 4 Tryz.f24).getD .skip) st:=fun st=>by rw[hc];rfl
 unfold err
 intro u
 induction u with
 |zero=>
  intro i k st hu h1 hk hst
  obtain⟨k,rfl⟩: ∃j,k=j+1:=⟨k-1,by omega⟩
  have hc:i=22:=by omega
  subst hc
  rw[if_neg (by omega)]
  rw[iter_eq,hst,hev]
  simp[loopAt,findLoop,Tryz.f24,htt,hlin,hreg,reg24,hcall,hcallP,hlv_4,hlv_100004]
 |succ u ih=>
  intro i k st hu h1 hk hst
  obtain⟨k,rfl⟩: ∃j,k=j+1:=⟨k-1,by omega⟩
  have e0:i≤21:=by omega
  have e0' : ¬21<i:=by omega
  have e1:i+1≤9223372036854775807:=by omega
  have e2: -9223372036854775808≤i+1:=by omega
  have ih' :=fun st h=>ih (i+1) k st (by omega) (by omega) (by omega) h
  by_cases hq:q=i
  ·subst hq
   rw[if_pos (by omega)]
   rw[iter_eq,hst,hev]
   simp[loopAt,findLoop,Tryz.f24,htt,hlin,hreg,reg24,hcall,hcallP,hlv_4,hlv_100004,e0,e0',e1,e2]
  ·have e3:(i+1≤q∧q≤21)↔(i≤q∧q≤21):=by omega
   simp only[e3] at ih'
   rw[iter_eq,hst,hev]
   simp[loopAt,findLoop,Tryz.f24,htt,hlin,hreg,reg24,hcall,hcallP,hlv_4,hlv_100004,e0,e0',e1,e2,hq]
   exact ih' _ (by simp)
theorem t_Code (F n:Nat) (hF:22<F) (q:Int):callN (envG G) F (n+1) 24 [.d (err q)]=some ⟨[.d (.int .i64 (if 1≤q∧q≤21 then q else-1))],[]⟩:=by
 rw[callN_run (fn:=Tryz.f24) rfl rfl rfl (by simp[Tryz.ntmps24])]
 generalize hC:(envG G).ctx 24 (callN (envG G) F (n)) (callP (envG G) F (n))=C
 have htt:C.tt=(envG G).tt:=by rw[←hC];rfl
 have hlin:C.lin=[]:=by rw[←hC];rfl
 have hreg:C.reg=reg24:=by rw[←hC];rfl
 have hcall:C.call=callN (envG G) F (n):=by rw[←hC];rfl
 have hcallP:C.callP=callP (envG G) F (n):=by rw[←hC];rfl
 have hlv_4:C.live 4=[0,3]:=by rw[←hC];rfl
 have hlv_100004:C.live 100004=[2]:=by rw[←hC];rfl
 have hL:=fun st h=>loop_code (G:=G) hC rfl q 21 1 F st (by omega) (by omega) (by omega) h
 unfold err at hL⊢
 simp[htt,hlin,hreg,reg24,hcall,hcallP,hlv_4,hlv_100004,ev_loop]
 by_cases hq:1≤q∧q≤21
 ·rw[if_pos hq] at hL⊢
  rw[hL _ (by simp)]
  simp[htt,hlin,hreg,reg24,hcall,hcallP,hlv_4,hlv_100004]
 ·rw[if_neg hq] at hL⊢
  rw[hL _ (by simp)]
  simp[htt,hlin,hreg,reg24,hcall,hcallP,hlv_4,hlv_100004]
theorem t_Code_nil (F n:Nat):callN (envG G) F (n+1) 24 [.d .nilifc]=some ⟨[.d (.int .i64 0)],[]⟩:=by
 rw[callN_run (fn:=Tryz.f24) rfl rfl rfl (by simp[Tryz.ntmps24])]
 generalize hC:(envG G).ctx 24 (callN (envG G) F (n)) (callP (envG G) F (n))=C
 have htt:C.tt=(envG G).tt:=by rw[←hC];rfl
 have hlin:C.lin=[]:=by rw[←hC];rfl
 have hreg:C.reg=reg24:=by rw[←hC];rfl
 have hcall:C.call=callN (envG G) F (n):=by rw[←hC];rfl
 have hcallP:C.callP=callP (envG G) F (n):=by rw[←hC];rfl
 have hlv_4:C.live 4=[0,3]:=by rw[←hC];rfl
 have hlv_100004:C.live 100004=[2]:=by rw[←hC];rfl
 simp[htt,hlin,hreg,reg24,hcall,hcallP,hlv_4,hlv_100004]
end Go.Proofs.YthpmkmogoejjpaaGreatDoor
set_option linter.unusedSimpArgs false
set_option linter.unusedVariables false
namespace Go.Proofs.YthpmkmogoejjpaaGreatDoor
open Go Go.VM
variable {G : GE}
set_option maxRecDepth 100000
set_option maxHeartbeats 4000000
def smallV (b:List Int):Int:=match small b with| .inl _=>0| .inr v=>v
def smallOk (b:List Int):Bool:=match small b with| .inl _=>false| .inr _=>true
end Go.Proofs.YthpmkmogoejjpaaGreatDoor
set_option linter.unusedSimpArgs false
set_option linter.unusedVariables false
namespace Go.Proofs.YthpmkmogoejjpaaGreatDoor
open Go Go.VM
variable {G : GE}
set_option maxRecDepth 100000
set_option maxHeartbeats 4000000
theorem loop_numof {m:Nat} {C:Ctx} {F:Nat} (hC:(envG G).ctx 85 (callN (envG G) F (m)) (callP (envG G) F (m))=C) {c:Code} (hc:loopAt 1 Tryz.f85=some c) (nl:Bool):
  ∀(xs:List Int) (k:Nat) (st:St),xs.length<k→st.trim 0 [0]=⟨[(0,.d (.nums .u8 nl xs))],[],[]⟩→
   iter (ev C F c) 0 [0] [0,2,3] k st=some (.exit 0,⟨[(0,.d (.nums .u8 nl (strip xs)))],[],[]⟩):=by
 have htt:C.tt=(envG G).tt:=by rw[←hC];rfl
 have hlin:C.lin=[34,32,19,3,2,30]:=by rw[←hC];rfl
 have hreg:C.reg=reg85:=by rw[←hC];rfl
 have hcall:C.call=callN (envG G) F (m):=by rw[←hC];rfl
 have hcallP:C.callP=callP (envG G) F (m):=by rw[←hC];rfl
 have hlv_1:C.live 1=[0]:=by rw[←hC];rfl
 have hlv_100001:C.live 100001=[0,2,3]:=by rw[←hC];rfl
 have hev: ∀st,ev C F c st=ev C F ((loopAt 1 Tryz.f85).getD .skip) st:=fun st=>by rw[hc];rfl
 intro xs
 induction xs with
 |nil=>
  intro k st hk hst
  obtain⟨k,rfl⟩: ∃j,k=j+1:=⟨k-1,by simp at hk;omega⟩
  rw[iter_eq,hst,hev]
  simp[loopAt,findLoop,Tryz.f85,htt,hlin,hreg,reg85,hcall,hcallP,hlv_1,hlv_100001,strip]
 |cons b t ih=>
  intro k st hk hst
  obtain⟨k,rfl⟩: ∃j,k=j+1:=⟨k-1,by simp at hk;omega⟩
  simp at hk
  have e1:(0:Int)<(t.length:Int)+1:=by omega
  have e2:(1:Int)≤(t.length:Int)+1:=by omega
  rw[iter_eq,hst,hev]
  by_cases h:b=0
  ·subst h
   have hq:=fun st h=>ih k st hk h
   simp[loopAt,findLoop,Tryz.f85,htt,hlin,hreg,reg85,hcall,hcallP,hlv_1,hlv_100001,e1,e2,strip]
   exact hq _ (by simp)
  ·simp[loopAt,findLoop,Tryz.f85,htt,hlin,hreg,reg85,hcall,hcallP,hlv_1,hlv_100001,h,e1,e2,strip]
theorem t_NumberOf (F n:Nat) (nl:Bool) (xs:List Int) (hn:nl=true→xs=[]) (hf:xs.length<F):callN (envG G) F (n+2) 85 [.d (.nums .u8 nl xs)]=some (match numberOf xs with
  | .inl e=>⟨[.d (.nums .u8 true []),.d (err e)],[0]⟩
  | .inr ys=>⟨[.d (.nums .u8 false ys),.d .nilifc],[0]⟩):=by
 have kc:=fun xs h=>t_clone (G:=G) F n xs h
 rw[callN_run (fn:=Tryz.f85) rfl rfl rfl (by simp[Tryz.ntmps85])]
 generalize hC:(envG G).ctx 85 (callN (envG G) F (n+1)) (callP (envG G) F (n+1))=C
 have htt:C.tt=(envG G).tt:=by rw[←hC];rfl
 have hlin:C.lin=[34,32,19,3,2,30]:=by rw[←hC];rfl
 have hreg:C.reg=reg85:=by rw[←hC];rfl
 have hcall:C.call=callN (envG G) F (n+1):=by rw[←hC];rfl
 have hcallP:C.callP=callP (envG G) F (n+1):=by rw[←hC];rfl
 have hlv_1:C.live 1=[0]:=by rw[←hC];rfl
 have hlv_100001:C.live 100001=[0,2,3]:=by rw[←hC];rfl
 have hL:=fun st h=>loop_numof (G:=G) hC rfl nl xs F st hf h
 have hs:=strip_len xs
 unfold err numberOf
 clear hC
 simp[htt,hlin,hreg,reg85,hcall,hcallP,hlv_1,hlv_100001,ev_loop]
 rw[hL _ (by simp)]
 by_cases h1:64<(strip xs).length
 ·have e1:(64:Int)<((strip xs).length:Int):=by omega
  simp[htt,hlin,hreg,reg85,hcall,hcallP,hlv_1,hlv_100001,h1,e1]
 ·have e1: ¬(64:Int)<((strip xs).length:Int):=by omega
  cases hsx:strip xs with
  |nil=>simp[htt,hlin,hreg,reg85,hcall,hcallP,hlv_1,hlv_100001,hsx]
  |cons b t=>
   have hnl:nl=false:=by
    cases nl with
    |false=>rfl
    |true=>rw[hn rfl] at hsx;simp[strip] at hsx
   subst hnl
   rw[hsx] at h1 e1
   simp at h1 e1
   have e2: ¬((t.length:Int)+1=0):=by omega
   have e3: ¬(64<t.length+1):=by omega
   have e4:t.length+1≤140737488355328:=by omega
   have e5: ¬((64:Int)<(t.length:Int)+1):=by omega
   have e6:1+(t.length+1)≤140737488355328:=by omega
   have e7:t.length≤140737488355327:=by omega
   by_cases h2:128≤b
   ·simp[htt,hlin,hreg,reg85,hcall,hcallP,hlv_1,hlv_100001,hsx,h2,e2,e3,e4,e5,e6,e7]
   ·simp[htt,hlin,hreg,reg85,hcall,hcallP,hlv_1,hlv_100001,hsx,h2,e2,e3,e4,e5,e6,e7,kc]
end Go.Proofs.YthpmkmogoejjpaaGreatDoor
set_option linter.unusedSimpArgs false
set_option linter.unusedVariables false
namespace Go.Proofs.YthpmkmogoejjpaaGreatDoor
open Go Go.VM
variable {G : GE}
set_option maxRecDepth 100000
set_option maxHeartbeats 4000000
def cutL (xs:List Int):Nat→Nat
 |0=>0
 |i+1=>match decide (xs.getD i 0=0) with
  |true=>cutL xs i
  |false=>i+1
theorem cutL_le (xs:List Int): ∀i,cutL xs i≤i
 |0=>Nat.le_refl _
 |i+1=>by
  unfold cutL
  split
  ·exact Nat.le_succ_of_le (cutL_le xs i)
  ·exact Nat.le_refl _
def trimL (xs:List Int):List Int:=xs.take (cutL xs xs.length)
theorem loop_trim {m:Nat} {C:Ctx} {F:Nat} (hC:(envG G).ctx 224 (callN (envG G) F (m)) (callP (envG G) F (m))=C) {c:Code} (hc:loopAt 2 Tryz.f224=some c) (nl:Bool) (xs:List Int) (hx:xs.length≤140737488355328):
  ∀(i k:Nat) (st:St),i≤xs.length→i<k→st.trim 0 [0,3]=⟨[(0,.d (.nums .u64 nl xs)),(3,.d (.int .i64 i))],[],[]⟩→
   iter (ev C F c) 0 [0,3] [0,2,3] k st=some (.exit 0,⟨[(0,.d (.nums .u64 nl xs)),(3,.d (.int .i64 (cutL xs i)))],[],[]⟩):=by
 have htt:C.tt=(envG G).tt:=by rw[←hC];rfl
 have hlin:C.lin=[]:=by rw[←hC];rfl
 have hreg:C.reg=reg224:=by rw[←hC];rfl
 have hcall:C.call=callN (envG G) F (m):=by rw[←hC];rfl
 have hcallP:C.callP=callP (envG G) F (m):=by rw[←hC];rfl
 have hlv_2:C.live 2=[0,3]:=by rw[←hC];rfl
 have hlv_100002:C.live 100002=[0,2,3]:=by rw[←hC];rfl
 have hev: ∀st,ev C F c st=ev C F ((loopAt 2 Tryz.f224).getD .skip) st:=fun st=>by rw[hc];rfl
 intro i
 induction i with
 |zero=>
  intro k st hi hk hst
  obtain⟨k,rfl⟩: ∃j,k=j+1:=⟨k-1,by omega⟩
  rw[iter_eq,hst,hev]
  simp[loopAt,findLoop,Tryz.f224,htt,hlin,hreg,reg224,hcall,hcallP,hlv_2,hlv_100002,cutL]
 |succ i ih=>
  intro k st hi hk hst
  obtain⟨k,rfl⟩: ∃j,k=j+1:=⟨k-1,by omega⟩
  have e0:(0:Int)<(i:Int)+1:=by omega
  have e1:(i:Int)+1-1=i:=by omega
  have e2:i<xs.length:=by omega
  have e3:(-9223372036854775808:Int)≤i:=by omega
  have e4:(i:Int)≤9223372036854775807:=by omega
  rw[iter_eq,hst,hev]
  have ih' :=fun st h=>ih k st (by omega) (by omega) h
  by_cases h:xs[i]=0
  ·simp[loopAt,findLoop,Tryz.f224,htt,hlin,hreg,reg224,hcall,hcallP,hlv_2,hlv_100002,e0,e1,e2,e3,e4,cutL,h]
   exact ih' _ (by simp)
  ·simp[loopAt,findLoop,Tryz.f224,htt,hlin,hreg,reg224,hcall,hcallP,hlv_2,hlv_100002,e0,e1,e2,e3,e4,cutL,h]
theorem t_Trim (F n:Nat) (nl:Bool) (xs:List Int) (hx:xs.length≤140737488355328) (hf:xs.length<F):callN (envG G) F (n+1) 224 [.d (.nums .u64 nl xs)]=some ⟨[.d (.nums .u64 nl (trimL xs))],[]⟩:=by
 rw[callN_run (fn:=Tryz.f224) rfl rfl rfl (by simp[Tryz.ntmps224])]
 generalize hC:(envG G).ctx 224 (callN (envG G) F (n)) (callP (envG G) F (n))=C
 have htt:C.tt=(envG G).tt:=by rw[←hC];rfl
 have hlin:C.lin=[]:=by rw[←hC];rfl
 have hreg:C.reg=reg224:=by rw[←hC];rfl
 have hcall:C.call=callN (envG G) F (n):=by rw[←hC];rfl
 have hcallP:C.callP=callP (envG G) F (n):=by rw[←hC];rfl
 have hlv_2:C.live 2=[0,3]:=by rw[←hC];rfl
 have hlv_100002:C.live 100002=[0,2,3]:=by rw[←hC];rfl
 have hL:=fun st h=>loop_trim (G:=G) hC rfl nl xs hx xs.length F st (Nat.le_refl _) hf h
 have h1:=cutL_le xs xs.length
 clear hC
 simp[htt,hlin,hreg,reg224,hcall,hcallP,hlv_2,hlv_100002,ev_loop]
 rw[hL _ (by simp)]
 have e1:(cutL xs xs.length:Int)≤xs.length:=by omega
 simp[htt,hlin,hreg,reg224,hcall,hcallP,hlv_2,hlv_100002,trimL,e1]
end Go.Proofs.YthpmkmogoejjpaaGreatDoor
set_option linter.unusedSimpArgs false
set_option linter.unusedVariables false
namespace Go.Proofs.YthpmkmogoejjpaaGreatDoor
open Go Go.VM
set_option maxRecDepth 100000
def vL:List Int→Int
 |[]=>0
 |x::t=>x+4294967296*vL t
def wL:List Int→Int
 |[]=>0
 |x::t=>x+18446744073709551616*wL t
def In32 (l:List Int):Prop:= ∀x∈l,0≤x∧x<4294967296
def In64 (l:List Int):Prop:= ∀x∈l,0≤x∧x<18446744073709551616
def halves:List Int→List Int
 |[]=>[]
 |a::t=>a % 4294967296::a/4294967296::halves t
theorem vL_halves: ∀l,vL (halves l)=wL l
 |[]=>rfl
 |a::t=>by
  simp only[halves,vL,wL,vL_halves t]
  omega
theorem halves_in: ∀l,In64 l→In32 (halves l)
 |[],_=>fun x hx=>by cases hx
 |a::t,h=>fun x hx=>by
  have ha:=h a (List.mem_cons_self ..)
  simp only[halves,List.mem_cons] at hx
  rcases hx with rfl|rfl|hx
  ·omega
  ·omega
  ·exact halves_in t (fun y hy=>h y (List.mem_cons_of_mem _ hy)) x hx
theorem vL_append: ∀a b,vL (a++b)=vL a+4294967296^a.length*vL b
 |[],b=>by simp[vL]
 |x::t,b=>by
  simp only[List.cons_append,vL,vL_append t b,List.length_cons,Int.pow_succ]
  rw[Int.mul_add,←Int.mul_assoc,Int.mul_comm (4294967296^t.length) 4294967296]
  omega
theorem vL_nonneg: ∀l,In32 l→0≤vL l
 |[],_=>by simp[vL]
 |a::t,h=>by
  have h1:=vL_nonneg t (fun y hy=>h y (List.mem_cons_of_mem _ hy))
  have h2:=h a (List.mem_cons_self ..)
  simp only[vL];omega
theorem vL_lt: ∀l,In32 l→vL l<4294967296^l.length
 |[],_=>by simp[vL]
 |a::t,h=>by
  have h1:=vL_lt t (fun y hy=>h y (List.mem_cons_of_mem _ hy))
  have h2:=h a (List.mem_cons_self ..)
  simp only[vL,List.length_cons,Int.pow_succ];omega
theorem cutL_max (xs:List Int): ∀i,∀j,cutL xs i≤j→j<i→xs.getD j 0=0
 |0,j,_,h=>by omega
 |i+1,j,h1,h2=>by
  unfold cutL at h1
  split at h1
  ·rename_i h0
   have h0:=of_decide_eq_true h0
   rcases Nat.lt_or_ge j i with h3|h3
   ·exact cutL_max xs i j h1 h3
   ·have:j=i:=by omega
    subst this;exact h0
  ·omega
theorem cutL_top (xs:List Int): ∀i,0<cutL xs i→xs.getD (cutL xs i-1) 0≠0
 |0,h=>by simp[cutL] at h
 |i+1,h=>by
  unfold cutL at h⊢
  split
  ·rename_i h0
   rw[h0] at h
   exact cutL_top xs i h
  ·rename_i h0
   have h0:=of_decide_eq_false h0
   simpa using h0
theorem vL_zeros: ∀l:List Int,(∀x∈l,x=0)→vL l=0
 |[],_=>rfl
 |a::t,h=>by
  simp only[vL,vL_zeros t (fun x hx=>h x (List.mem_cons_of_mem _ hx)),h a (List.mem_cons_self ..)]
  rfl
theorem vL_trim (l:List Int):vL (trimL l)=vL l:=by
 have h:vL (l.take (cutL l l.length)++l.drop (cutL l l.length))=vL l:=by rw[List.take_append_drop]
 rw[vL_append] at h
 have h2:vL (l.drop (cutL l l.length))=0:=by
  refine vL_zeros _ fun x hx=> ?_
  obtain⟨j,hj,rfl⟩:=List.getElem_of_mem hx
  simp only[List.length_drop] at hj
  have:=cutL_max l l.length (cutL l l.length+j) (by omega) (by omega)
  simp only[List.getElem_drop]
  rw[List.getD_eq_getElem?_getD,List.getElem?_eq_getElem (by omega)] at this
  simpa using this
 rw[h2] at h
 unfold trimL
 omega
theorem trimL_in {l:List Int} (h:In32 l):In32 (trimL l):=fun x hx=>h x (List.mem_of_mem_take hx)
def Canon (l:List Int):Prop:=In32 l∧ ∀x,l.getLast? =some x→x≠0
theorem trimL_len (l:List Int):(trimL l).length=cutL l l.length:=by
 have:=cutL_le l l.length
 unfold trimL
 simp only[List.length_take];omega
theorem trimL_canon {l:List Int} (h:In32 l):Canon (trimL l):=by
 refine⟨trimL_in h,fun x hx=> ?_⟩
 have hl:=trimL_len l
 rw[List.getLast?_eq_getElem?,hl] at hx
 have h0:0<cutL l l.length:=by
  rcases Nat.eq_zero_or_pos (cutL l l.length) with h1|h1
  ·rw[h1] at hx hl
   rw[List.length_eq_zero_iff.1 hl] at hx
   simp at hx
  ·exact h1
 have h1:=cutL_top l l.length h0
 have h2:=cutL_le l l.length
 unfold trimL at hx
 rw[List.getElem?_take_of_lt (by omega)] at hx
 rw[List.getD_eq_getElem?_getD,hx] at h1
 simpa using h1
theorem canon_ge {l:List Int} (h:Canon l) (hl:l≠[]):4294967296^(l.length-1)≤vL l:=by
 obtain⟨t,x,rfl⟩: ∃t x,l=t++[x]:=⟨_,_,(List.dropLast_concat_getLast hl).symm⟩
 have h1:=h.1 x (by simp)
 have h2:=h.2 x (by simp)
 have h3:=vL_nonneg t (fun y hy=>h.1 y (by simp[hy]))
 rw[vL_append]
 simp only[List.length_append,List.length_cons,List.length_nil,vL,Nat.add_zero,Nat.zero_add,Nat.add_sub_cancel,Int.mul_zero,Int.add_zero]
 have h4:(0:Int)≤4294967296^t.length:=Int.pow_nonneg (by omega)
 have h5:(4294967296:Int)^t.length*1≤4294967296^t.length*x:=Int.mul_le_mul_of_nonneg_left (by omega) h4
 omega
theorem powB_le {i j:Nat} (h:i≤j):(4294967296:Int)^i≤4294967296^j:=by
 obtain⟨d,rfl⟩:=Nat.exists_eq_add_of_le h
 have h1:(0:Int)<4294967296^d:=Int.pow_pos (by omega)
 have h2:(0:Int)≤4294967296^i:=Int.pow_nonneg (by omega)
 have h3:(4294967296:Int)^i*1≤4294967296^i*4294967296^d:=Int.mul_le_mul_of_nonneg_left (by omega) h2
 rw[Int.pow_add]
 omega
theorem canon_len {a b:List Int} (ha:Canon a) (hb:Canon b) (h:a.length<b.length):vL a<vL b:=by
 have h1:=vL_lt a ha.1
 have h2:=canon_ge hb (fun h0=>by rw[h0] at h;simp at h)
 have h3:(4294967296:Int)^a.length≤4294967296^(b.length-1):=by
  exact powB_le (by omega)
 omega
def cmpT (a b:List Int):Nat→Int
 |0=>0
 |i+1=>match decide (a.getD i 0<b.getD i 0) with
  |true=> -1
  |false=>match decide (b.getD i 0<a.getD i 0) with
   |true=>1
   |false=>cmpT a b i
def cmpL (a b:List Int):Int:=
 match decide (a.length<b.length),decide (b.length<a.length) with
 |true,_=> -1
 |_,true=>1
 |_,_=>cmpT a b a.length
theorem take_succ_getD (a:List Int) (i:Nat) (h:i<a.length):a.take (i+1)=a.take i++[a.getD i 0]:=by
 rw[List.take_add_one,List.getD_eq_getElem?_getD,List.getElem?_eq_getElem h];rfl
theorem cmpT_lt (a b:List Int) (ha:In32 a) (hb:In32 b): ∀i,i≤a.length→i≤b.length→
  (cmpT a b i= -1∧vL (a.take i)<vL (b.take i))∨(cmpT a b i=1∧vL (b.take i)<vL (a.take i))∨(cmpT a b i=0∧vL (a.take i)=vL (b.take i))
 |0,_,_=> .inr (.inr ⟨rfl,rfl⟩)
 |i+1,h1,h2=>by
  have ih:=cmpT_lt a b ha hb i (by omega) (by omega)
  rw[take_succ_getD a i (by omega),take_succ_getD b i (by omega),vL_append,vL_append]
  have e1:(a.take i).length=i:=by simp;omega
  have e2:(b.take i).length=i:=by simp;omega
  have l1:=vL_lt (a.take i) (fun x hx=>ha x (List.mem_of_mem_take hx))
  have l2:=vL_lt (b.take i) (fun x hx=>hb x (List.mem_of_mem_take hx))
  have n1:=vL_nonneg (a.take i) (fun x hx=>ha x (List.mem_of_mem_take hx))
  have n2:=vL_nonneg (b.take i) (fun x hx=>hb x (List.mem_of_mem_take hx))
  rw[e1] at l1⊢;rw[e2] at l2⊢
  unfold cmpT
  simp only[vL,Int.mul_zero,Int.add_zero]
  generalize a.getD i 0=x at*
  generalize b.getD i 0=y at*
  generalize vL (a.take i)=u at*
  generalize vL (b.take i)=v at*
  have hP:(0:Int)≤4294967296^i:=Int.pow_nonneg (by omega)
  generalize (4294967296:Int)^i=P at*
  by_cases hxy:x<y
  ·left
   refine⟨by simp[hxy], ?_⟩
   have:=Int.mul_le_mul_of_nonneg_left (show x+1≤y by omega) hP
   rw[Int.mul_add] at this
   omega
  ·by_cases hyx:y<x
   ·right;left
    refine⟨by simp[hxy,hyx], ?_⟩
    have:=Int.mul_le_mul_of_nonneg_left (show y+1≤x by omega) hP
    rw[Int.mul_add] at this
    omega
   ·have:x=y:=by omega
    subst this
    simp only[hxy,decide_false]
    omega
theorem cmpL_lt {a b:List Int} (ha:Canon a) (hb:Canon b):(cmpL a b<0↔vL a<vL b):=by
 unfold cmpL
 by_cases h1:a.length<b.length
 ·have:=canon_len ha hb h1
  simp only[h1,decide_true]
  omega
 ·by_cases h2:b.length<a.length
  ·have:=canon_len hb ha h2
   simp only[h1,h2,decide_true,decide_false]
   omega
  ·have h3:=cmpT_lt a b ha.1 hb.1 a.length (by omega) (by omega)
   rw[List.take_length,List.take_of_length_le (show b.length≤a.length by omega)] at h3
   simp only[h1,h2,decide_false]
   omega
theorem canon_nil {a:List Int} (ha:Canon a):(a=[]↔vL a=0):=by
 constructor
 ·rintro rfl;rfl
 ·intro h
  rcases a with _|⟨x,t⟩
  ·rfl
  ·have:=canon_ge ha (by simp)
   have h2:(0:Int)<4294967296^((x::t).length-1):=Int.pow_pos (by omega)
   omega
theorem wL_zero: ∀ {l:List Int},In64 l→(wL l=0↔ ∀x∈l,x=0)
 |[],_=>by simp[wL]
 |a::t,h=>by
  have h1:=h a (List.mem_cons_self ..)
  have ht:In64 t:=fun y hy=>h y (List.mem_cons_of_mem _ hy)
  have ih:=wL_zero ht
  have h2:0≤wL t:=by
   have:=vL_nonneg _ (halves_in t ht)
   rwa [vL_halves] at this
  simp only[wL,List.mem_cons,forall_eq_or_imp,←ih]
  omega
end Go.Proofs.YthpmkmogoejjpaaGreatDoor
