/- The law CrlHas, reckoned by the machine over values, hands back true. -/
import Derived.Test.YthpmkmogoejjpaaDoorSC
import Derived.Test.YthpmkmogoejjpaaDoorRows
import Derived.WalkKit
import Derived.ProofKit
import Derived.OpenShut
import Derived.ShutString
import Derived.ChangeOld
import Derived.ChangeSame
import Derived.ChangeVars
import Derived.JoinedOf
import Derived.Below
import Derived.SizedLaws
import Derived.LaidLaws
import Derived.LaidHandle
import Derived.Stop.Joined
import Derived.Test.YthpmkmogoejjpaaDoorVMU
import Derived.Lay
set_option linter.unusedSimpArgs false
set_option linter.unusedVariables false
namespace Go.Proofs.YthpmkmogoejjpaaDoor
open Go Go.VM
set_option maxRecDepth 100000
set_option maxHeartbeats 8000000
theorem upHa (F n:Nat) (hf:200≤F) (hn:60≤n):callN (envG gHa) F n 7 []=some ⟨[.d (.bool true)],[]⟩:=callN_mono hf hn upHa_0
theorem loop_hasL {m:Nat} {C:Ctx} {F:Nat} (hC:(envG gHa).ctx 4 (callN (envG gHa) F (m)) (callP (envG gHa) F (m))=C) {c:Code} (hc:loopAt 4 Tryd.f4=some c) (d0 d4:D) (this next:Int) (ng:Bool) (gs:List Gn) (hgs:gs.length≤140737488355328) (q0 q1 q2 q3 q4 q5 q6 q7 q8 q9 q10 q11:Int) (nl:Bool) (s:List Int) (u:Bool):
  ∀(us:List Gn) (i k:Nat) (w:Bool) (st:St),gs.drop i=us→i≤gs.length→us.length<k→
   st.trim 1 [1,2,5,6,7]=⟨[(1,.d (.nums .u8 nl s)),(2,.ptr 0 0),(5,.d (.bool u)),(6,.d (.bool w)),(7,.d (.int .i64 i))],[some (.cells false ((crlC d0 this next ng gs d4 q0 q1 q2 q3 q4 q5 q6 q7 q8 q9 q10 q11).map .d))],[]⟩→
   iter (ev C F c) 1 [1,2,5,6,7] [1,2,4,5,6] k st=some (.exit 0,⟨[(1,.d (.nums .u8 nl s)),(2,.ptr 0 0),(5,.d (.bool u)),(6,.d (.bool (w||us.any (hasG s))))],[some (.cells false ((crlC d0 this next ng gs d4 q0 q1 q2 q3 q4 q5 q6 q7 q8 q9 q10 q11).map .d))],[]⟩):=by
 have htt:C.tt=(envG gHa).tt:=by rw[←hC];rfl
 have hlin:C.lin=[33,52,38,8,4,30,34]:=by rw[←hC];rfl
 have hreg:C.reg=reg4:=by rw[←hC];rfl
 have hcall:C.call=callN (envG gHa) F (m):=by rw[←hC];rfl
 have hcallP:C.callP=callP (envG gHa) F (m):=by rw[←hC];rfl
 have hlv_4:C.live 4=[1,2,5,6,7]:=by rw[←hC];rfl
 have hlv_100004:C.live 100004=[1,2,4,5,6]:=by rw[←hC];rfl
 have hlv_200006:C.live 200006=[]:=by rw[←hC];rfl
 have hlv_250006:C.live 250006=[]:=by rw[←hC];rfl
 have hev: ∀st,ev C F c st=ev C F ((loopAt 4 Tryd.f4).getD .skip) st:=fun st=>by rw[hc];rfl
 simp only[crlC,List.map]
 intro us
 induction us with
 |nil=>
  intro i k w st hd hi hk hst
  obtain⟨k,rfl⟩: ∃j,k=j+1:=⟨k-1,by simp at hk;omega⟩
  have h0:=drop_nil hd
  have e0: ¬((i:Int)<(gs.length:Int)):=by omega
  rw[iter_eq,hst,hev]
  simp[loopAt,findLoop,Tryd.f4,htt,hlin,hreg,reg4,hcall,hcallP,hlv_4,hlv_100004,hlv_200006,hlv_250006,e0]
 |cons x us ih=>
  intro i k w st hd hi hk hst
  obtain⟨k,rfl⟩: ∃j,k=j+1:=⟨k-1,by simp at hk;omega⟩
  simp at hk
  obtain⟨hd2,hlt⟩:=drop_succ hd
  have ra:=gcells_at hd
  simp only[Gn.cells] at ra
  have e0:(i:Int)<(gs.length:Int):=by omega
  have e1:(i:Int)+1≤9223372036854775807:=by omega
  have e2:(-9223372036854775808:Int)≤(i:Int)+1:=by omega
  have ih' :=fun st h=>ih (i+1) k (w||hasG s x) st hd2 (by omega) hk h
  rw[Bool.or_assoc] at ih'
  rw[List.any_cons]
  rw[iter_eq,hst,hev]
  cases w with
  |true=>
   simp at ih'
   simp[loopAt,findLoop,Tryd.f4,htt,hlin,hreg,reg4,hcall,hcallP,hlv_4,hlv_100004,hlv_200006,hlv_250006,e0,e1,e2,ra]
   exact ih' _ (by simp)
  |false=>
   by_cases hx:x.s=s
   ·have hh:hasG s x=true:=by simp[hasG,hx]
    rw[hh] at ih' ⊢
    simp at ih'
    simp[loopAt,findLoop,Tryd.f4,htt,hlin,hreg,reg4,hcall,hcallP,hlv_4,hlv_100004,hlv_200006,hlv_250006,e0,e1,e2,ra,hx]
    exact ih' _ (by simp)
   ·have hh:hasG s x=false:=by simp[hasG,hx]
    rw[hh] at ih' ⊢
    simp at ih'
    simp[loopAt,findLoop,Tryd.f4,htt,hlin,hreg,reg4,hcall,hcallP,hlv_4,hlv_100004,hlv_200006,hlv_250006,e0,e1,e2,ra,hx]
    exact ih' _ (by simp)
theorem ch_law (F:Nat) (hF:1100000<F) (n:Nat) (ni nb:Bool) (a:List (List D)) (b:List Int) (this next:Int) (ng:Bool) (gs:List Gn) (hgs:gs.length*32≤140737488351232) (hgF:gs.length+1<F) (q0 q1 q2 q3 q4 q5 q6 q7 q8 q9 q10 q11:Int) (nl:Bool) (s:List Int):
  callN (envG gHa) F (n+70) 4 [.d (.agg (crlC (.sl 2 ni a) this next ng gs (.nums .u8 nb b) q0 q1 q2 q3 q4 q5 q6 q7 q8 q9 q10 q11)),.d (.nums .u8 nl s)]=some ⟨[.d (.bool true)],[]⟩:=by
 have hu:=upHa F (n+69) (by omega) (by omega)
 have k1:callN (envG gHa) F (n+69) _ _=_:=t_Has (G:=gHa) F (n+64) ni nb a b this next ng gs (by omega) (by omega) q0 q1 q2 q3 q4 q5 q6 q7 q8 q9 q10 q11 nl s
 have k2: ∀l:List Gn,l.length<F→l.length≤140737488355328→callN (envG gHa) F (n+69) _ _=_:=fun l h h2=>t_Has (G:=gHa) F (n+64) true true [] [] 0 0 false l h2 h 0 0 0 0 0 0 0 0 0 0 0 0 nl s
 have k2:=k2 (gs++[Gn.mk nl s 0]) (by simp;omega) (by simp;omega)
 have hany:(gs++[Gn.mk nl s 0]).any (hasG s)=true:=by simp[hasG]
 rw[hany] at k2
 have e1:gs.length≤140737488355328:=by omega
 have e2:gs.length*32≤140737488355328:=by omega
 have e3:gs.length+1≤140737488355328:=by omega
 have e4:(gs.length+1)*32≤140737488355328:=by omega
 rw[callN_run (fn:=Tryd.f4) rfl rfl rfl (by simp[Tryd.ntmps4])]
 generalize hC:(envG gHa).ctx 4 (callN (envG gHa) F (n+69)) (callP (envG gHa) F (n+69))=C
 have htt:C.tt=(envG gHa).tt:=by rw[←hC];rfl
 have hlin:C.lin=[33,52,38,8,4,30,34]:=by rw[←hC];rfl
 have hreg:C.reg=reg4:=by rw[←hC];rfl
 have hcall:C.call=callN (envG gHa) F (n+69):=by rw[←hC];rfl
 have hcallP:C.callP=callP (envG gHa) F (n+69):=by rw[←hC];rfl
 have hlv_4:C.live 4=[1,2,5,6,7]:=by rw[←hC];rfl
 have hlv_100004:C.live 100004=[1,2,4,5,6]:=by rw[←hC];rfl
 have hlv_200006:C.live 200006=[]:=by rw[←hC];rfl
 have hlv_250006:C.live 250006=[]:=by rw[←hC];rfl
 have hL:=fun st h=>loop_hasL hC rfl (.sl 2 ni a) (.nums .u8 nb b) this next ng gs (by omega) q0 q1 q2 q3 q4 q5 q6 q7 q8 q9 q10 q11 nl s true gs 0 F false st rfl (by omega) (by omega) h
 clear hC
 simp only[crlC,List.map_append,List.map,Bool.false_or] at*
 simp only[Gn.cells] at k2
 simp[htt,hlin,hreg,reg4,hcall,hcallP,hlv_4,hlv_100004,hlv_200006,hlv_250006,ev_loop,hu]
 rw[hL _ (by simp)]
 simp[htt,hlin,hreg,reg4,hcall,hcallP,hlv_4,hlv_100004,hlv_200006,hlv_250006,hu,k1,k2,e1,e2,e3,e4]
end Go.Proofs.YthpmkmogoejjpaaDoor
namespace Go.Proofs.YthpmkmogoejjpaaDoor
open Go.ChangeShapes Go.WideShapes Go.ChangeAt Go.RowKit Go.VM
set_option linter.unusedVariables false
theorem own:ownKnob Tryd.prog.godebug=none:=by kernel_rfl
theorem laidOut:laidOutB Tryd.prog=true:=by kernel_rfl
def grData {H:Type}:List (String×DataW H):=[("escutcheon/order.group",Rows.laid_escutcheon_order_group)]
theorem rep_gr {W:World} (h:laidMetH Tryd.prog grData W): ∀g cs,gHa.glob g=some cs→RepC W noOwn g 0 cs:=by
 intro g cs hg
 cases hg
noncomputable def grWorld (os:Os):World:=(World.holding Tryd.prog os ⟨#[], #[],[]⟩).layVars Tryd.prog grData
theorem grWorld_met (os:Os) (args:Array Value):laidMetH Tryd.prog grData ((grWorld os).forCall (fun _ _=>0) ⟨#[],args,[]⟩).memory:=
 laidMetH_of_parts (laidMet_of_run' 12 (by kernel_rfl) (by kernel_rfl)) (by kernel_rfl)
theorem twelve {l:List Int} (h:l.length=12): ∃a b c d e f g i j k m n,l=[a,b,c,d,e,f,g,i,j,k,m,n]:=by
 match l,h with
 |[a,b,c,d,e,f,g,i,j,k,m,n],_=>exact⟨a,b,c,d,e,f,g,i,j,k,m,n,rfl⟩
end Go.Proofs.YthpmkmogoejjpaaDoor
