/- What the reference's Depth hands back. -/
import Derived.Test.YthpmkmogoejjpaaGreatDoorSC
import Derived.Test.YthpmkmogoejjpaaGreatDoorSJ
import Derived.Test.YthpmkmogoejjpaaGreatDoorSE
import Derived.Test.YthpmkmogoejjpaaGreatDoorSG
import Derived.Test.YthpmkmogoejjpaaGreatDoorSH
import Derived.Test.YthpmkmogoejjpaaGreatDoorVMS
set_option linter.unusedSimpArgs false
set_option linter.unusedVariables false
namespace Go.Proofs.YthpmkmogoejjpaaGreatDoor
open Go Go.VM
variable {G : GE}
set_option maxRecDepth 100000
set_option maxHeartbeats 4000000
theorem loop_rdepth {C:Ctx} {F m:Nat} (htt:C.tt=(envG G).tt) (hlin:C.lin=[]) (hreg:C.reg=reg110) (hcall:C.call=callN (envG G) F m) {c:Code}
  (hc:loopAt 3 Tryz.f110=some c) (p0 p1 p2 p3:D) (nl:Bool) (a:List Tlv) (ha:a.length≤140737488355328)
  (hg: ∀x∈a,callN (envG G) F m 110 [.d (.agg x.cells)]=some ⟨[.d (.int .i64 x.depth)],[]⟩):
  ∀(us:List Tlv) (i k z:Nat) (st:St),a.drop i=us→i≤a.length→us.length<k→
   st.trim 1 [1,3,4]=⟨[(1,.ptr 0 0),(3,.d (.int .i64 z)),(4,.d (.int .i64 i))],[some (.cells false [.d p0,.d p1,.d p2,.d p3,.d (.sl 5 nl (Tlv.cellsL a))])],[]⟩→
   iter (ev C F c) 1 [1,3,4] [2,3] k st=some (.exit 0,⟨[(3,.d (.int .i64 ((max z (Tlv.depthL us):Nat):Int)))],[some (.cells false [.d p0,.d p1,.d p2,.d p3,.d (.sl 5 nl (Tlv.cellsL a))])],[]⟩):=by
 have hev: ∀st,ev C F c st=ev C F ((loopAt 3 Tryz.f110).getD .skip) st:=fun st=>by rw[hc];rfl
 intro us
 induction us with
 |nil=>
  intro i k z st hd hi hk hst
  obtain⟨k,rfl⟩: ∃j,k=j+1:=⟨k-1,by simp at hk;omega⟩
  have h0:=drop_nil hd
  have e0: ¬((i:Int)<(a.length:Int)):=by omega
  rw[iter_eq,hst,hev]
  simp[loopAt,findLoop,Tryz.f110,htt,hlin,hreg,reg110,e0,Tlv.depthL,cellsL_len]
 |cons x us ih=>
  intro i k z st hd hi hk hst
  obtain⟨k,rfl⟩: ∃j,k=j+1:=⟨k-1,by simp at hk;omega⟩
  simp at hk
  obtain⟨hd2,hlt⟩:=drop_succ hd
  have ra:=cellsL_at hd
  have hx:=hg x (List.mem_of_getElem? (at_of_drop hd))
  have e0:(i:Int)<(a.length:Int):=by omega
  have e1:(i:Int)+1≤9223372036854775807:=by omega
  have e2:(-9223372036854775808:Int)≤(i:Int)+1:=by omega
  rw[iter_eq,hst,hev]
  simp only[Tlv.depthL]
  have ih' :=fun z st h=>ih (i+1) k z st hd2 (by omega) hk h
  obtain⟨c1,t,md,bn,b,kx,ks⟩:=x
  simp only[Tlv.cells] at ra hx
  generalize Tlv.depth (.mk c1 t md bn b kx ks)=s at*
  by_cases hm:z<s
  ·have e3:(z:Int)<(s:Int):=by omega
   rw[show max z (max s (Tlv.depthL us))=max s (Tlv.depthL us) by omega]
   simp[loopAt,findLoop,Tryz.f110,htt,hlin,hreg,reg110,hcall,e0,e1,e2,e3,ra,hx,cellsL_len]
   simp at ih'
   exact ih' s _ (by simp)
  ·have e3: ¬((z:Int)<(s:Int)):=by omega
   rw[show max z (max s (Tlv.depthL us))=max z (Tlv.depthL us) by omega]
   simp[loopAt,findLoop,Tryz.f110,htt,hlin,hreg,reg110,hcall,e0,e1,e2,e3,ra,hx,cellsL_len]
   simp at ih'
   exact ih' z _ (by simp)
theorem t_rdepth (F:Nat) (hF:F≤140737488355328) (B:Nat) (hB:B<F): ∀(d n:Nat) (x:Tlv),d≤1000000→x.depth≤d→x.width B→
  callN (envG G) F (n+d) 110 [.d (.agg x.cells)]=some ⟨[.d (.int .i64 x.depth)],[]⟩:=by
 intro d
 induction d with
 |zero=>intro n x _ hd;cases x;simp[Tlv.depth] at hd
 |succ d ih=>
  intro n x hd0 hd hw
  obtain⟨c,t,m,bn,b,kn,ks⟩:=x
  simp only[Tlv.depth] at hd
  simp only[Tlv.width] at hw
  have hkl:ks.length≤B:=hw.2.1
  simp only[Tlv.cells,Tlv.depth]
  rw[show n+(d+1)=n+d+1 by omega,callN_run (fn:=Tryz.f110) rfl rfl rfl (by simp[Tryz.ntmps110])]
  generalize hC:(envG G).ctx 110 (callN (envG G) F (n+d)) (callP (envG G) F (n+d))=C
  have htt:C.tt=(envG G).tt:=by rw[←hC];rfl
  have hlin:C.lin=[]:=by rw[←hC];rfl
  have hreg:C.reg=reg110:=by rw[←hC];rfl
  have hcall:C.call=callN (envG G) F (n+d):=by rw[←hC];rfl
  have hl1:C.live 3=[1,3,4]:=by rw[←hC];rfl
  have hl2:C.live 100003=[2,3]:=by rw[←hC];rfl
  have hL:=fun st h=>loop_rdepth (G:=G) htt hlin hreg hcall rfl (.int .i64 c) (.int .i64 t) (.bool m) (.nums .u8 bn b) kn ks (by omega)
   (fun x hx=>ih n x (by omega) (by have:=depthL_mem hx;omega) (widthL_mem hw.2.2 hx)) ks 0 F 0 st rfl (by omega) (by omega) h
  have e1:(Tlv.depthL ks:Int)+1≤9223372036854775807:=by omega
  have e2:(-9223372036854775808:Int)≤(Tlv.depthL ks:Int)+1:=by omega
  simp at hL
  simp[htt,hlin,hreg,reg110,hcall,ev_loop,hl1,hl2]
  rw[hL _ (by simp)]
  simp[htt,hlin,hreg,reg110,hcall,e1,e2]
end Go.Proofs.YthpmkmogoejjpaaGreatDoor
set_option linter.unusedSimpArgs false
set_option linter.unusedVariables false
namespace Go.Proofs.YthpmkmogoejjpaaGreatDoor
open Go Go.VM
variable {G : GE}
set_option maxRecDepth 100000
set_option maxHeartbeats 4000000
theorem t_bytes (F:Nat) (hF:F≤140737488355328) (B:Nat) (hB:B<F): ∀(d n:Nat) (x:Tlv),x.depth≤d→x.width B→x.fine=true→x.enc.length<16777216→
  callN (envG G) F (n+d) 111 [.d (.agg x.cells)]=some ⟨[.d (.nums .u8 false x.enc)],[0]⟩:=by
 intro d
 induction d with
 |zero=>intro n x hd;cases x;simp[Tlv.depth] at hd
 |succ d ih=>
  intro n x hd hw hfi hen
  obtain⟨c,t,m,bn,b,kn,ks⟩:=x
  simp only[Tlv.depth] at hd
  simp only[Tlv.width] at hw
  have hkl:ks.length≤B:=hw.2.1
  simp only[Tlv.fine,Bool.and_eq_true,decide_eq_true_eq] at hfi
  obtain⟨⟨c0,c3,t0,t30,_,_⟩,hfl⟩:=hfi
  simp only[Tlv.enc,headB,List.length_append,List.length_cons] at hen
  simp only[Tlv.enc,headB,Tlv.cells]
  obtain⟨o,ho⟩: ∃o,o=b++Tlv.encL ks:=⟨_,rfl⟩
  have hlo:o.length=b.length+(Tlv.encL ks).length:=by rw[ho];simp
  rw[←ho]
  rw[show n+(d+1)=n+d+1 by omega]
  rw[callN_run (fn:=Tryz.f111) rfl rfl rfl (by simp[Tryz.ntmps111])]
  generalize hC:(envG G).ctx 111 (callN (envG G) F (n+d)) (callP (envG G) F (n+d))=C
  have htt:C.tt=(envG G).tt:=by rw[←hC];rfl
  have hlin:C.lin=[39,11,82,79,66,55,48,6,26,3,2,8,19,44,51,58,67,80]:=by rw[←hC];rfl
  have hreg:C.reg=reg111:=by rw[←hC];rfl
  have hcall:C.call=callN (envG G) F (n+d):=by rw[←hC];rfl
  have hcallP:C.callP=callP (envG G) F (n+d):=by rw[←hC];rfl
  have hlv_3:C.live 3=[1,3,4]:=by rw[←hC];rfl
  have hlv_100003:C.live 100003=[1,2,3]:=by rw[←hC];rfl
  have hL:=fun st h=>loop_bytes (G:=G) hC rfl (.int .i64 c) (.int .i64 t) (.bool m) (.nums .u8 bn b) kn ks (by omega)
   (fun x hx=>ih n x (by have:=depthL_mem hx;omega) (widthL_mem hw.2.2 hx) (fineL_mem hfl hx) (by have:=enc_mem hx;omega)) ks 0 F b st rfl (by omega) (by omega) (by omega) h
  rw[←ho] at hL
  clear hC ih
  unfold tlvK' at hL
  simp at hL
  have hbl:b.length≤140737488355327:=by omega
  have hbl2:b.length≤140737488355328:=by omega
  have e1:64*c≤9223372036854775807:=by omega
  have e2: -9223372036854775808≤64*c:=by omega
  have e3:64*c+t≤9223372036854775807:=by omega
  have e4: -9223372036854775808≤64*c+t:=by omega
  have e5:64*c+t+32≤9223372036854775807:=by omega
  have e6: -9223372036854775808≤64*c+t+32:=by omega
  have e7:0≤64*c+t:=by omega
  have e8:64*c+t≤255:=by omega
  have e9:0≤64*c+t+32:=by omega
  have e10:64*c+t+32≤255:=by omega
  simp[htt,hlin,hreg,reg111,hcall,hcallP,hlv_3,hlv_100003,ev_loop,hbl,hbl2]
  rw[hL _ (by simp)]
  have hNl:o.length<16777216:=by omega
  clear ho hlo
  have q1:(o.length:Int).tdiv 256=(o.length:Int)/256:=Int.tdiv_eq_ediv_of_nonneg (by omega)
  have q2:(o.length:Int).tmod 256=(o.length:Int) % 256:=Int.tmod_eq_emod_of_nonneg (by omega)
  have q3:(o.length:Int).tdiv 65536=(o.length:Int)/65536:=Int.tdiv_eq_ediv_of_nonneg (by omega)
  have q4:((o.length:Int)/256).tmod 256=(o.length:Int)/256 % 256:=Int.tmod_eq_emod_of_nonneg (by omega)
  have l1:o.length+1≤140737488355328:=by omega
  have l2:o.length+5≤140737488355328:=by omega
  have l3:1+1+o.length≤140737488355328:=by omega
  have l4:o.length≤140737488355327:=by omega
  have l5:o.length≤140737488355328:=by omega
  have l6:2+o.length≤140737488355328:=by omega
  have l7:3+o.length≤140737488355328:=by omega
  have l8:4+o.length≤140737488355328:=by omega
  have l9:5+o.length≤140737488355328:=by omega
  have w1:(o.length:Int)/256≤9223372036854775807:=by omega
  have w2:(-9223372036854775808:Int)≤(o.length:Int)/256:=by omega
  have w3:(o.length:Int) % 256≤9223372036854775807:=by omega
  have w4:(-9223372036854775808:Int)≤(o.length:Int) % 256:=by omega
  have w5:(o.length:Int)/65536≤9223372036854775807:=by omega
  have w6:(-9223372036854775808:Int)≤(o.length:Int)/65536:=by omega
  have w7:(o.length:Int)/256 % 256≤9223372036854775807:=by omega
  have w8:(-9223372036854775808:Int)≤(o.length:Int)/256 % 256:=by omega
  have u1:0≤(o.length:Int) % 256:=by omega
  have u2:(o.length:Int) % 256≤255:=by omega
  have u3:0≤(o.length:Int)/256 % 256:=by omega
  have u4:(o.length:Int)/256 % 256≤255:=by omega
  have u5:0≤(o.length:Int)/65536:=by omega
  have u6:(o.length:Int)/65536≤255:=by omega
  have u7:0≤(o.length:Int)/256:=by omega
  unfold sizeB
  by_cases s1:o.length<128
  ·have s1' :(o.length:Int)<128:=by omega
   have s1'' :(o.length:Int)≤255:=by omega
   rw[if_pos s1]
   cases m<;>simp[htt,hlin,hreg,reg111,hcall,hcallP,hlv_3,hlv_100003,e1,e2,e3,e4,e5,e6,e7,e8,e9,e10,s1',s1'',l1,l2,l3,l4,l5,l6]
  ·have s1' : ¬(o.length:Int)<128:=by omega
   rw[if_neg s1]
   by_cases s2:o.length<256
   ·have s2' :(o.length:Int)<256:=by omega
    have s2'' :(o.length:Int)≤255:=by omega
    rw[if_pos s2]
    cases m<;>simp[htt,hlin,hreg,reg111,hcall,hcallP,hlv_3,hlv_100003,e1,e2,e3,e4,e5,e6,e7,e8,e9,e10,s1',s2',s2'',l1,l2,l3,l4,l5,l7]
   ·have s2' : ¬(o.length:Int)<256:=by omega
    rw[if_neg s2]
    by_cases s3:o.length<65536
    ·have s3' :(o.length:Int)<65536:=by omega
     have u8:(o.length:Int)/256≤255:=by omega
     rw[if_pos s3]
     cases m<;>simp[htt,hlin,hreg,reg111,hcall,hcallP,hlv_3,hlv_100003,e1,e2,e3,e4,e5,e6,e7,e8,e9,e10,s1',s2',s3',l1,l2,l3,l4,l5,l8,q1,q2,w1,w2,w3,w4,u1,u2,u7,u8]
    ·have s3' : ¬(o.length:Int)<65536:=by omega
     rw[if_neg s3]
     cases m<;>simp[htt,hlin,hreg,reg111,hcall,hcallP,hlv_3,hlv_100003,e1,e2,e3,e4,e5,e6,e7,e8,e9,e10,s1',s2',s3',l1,l2,l3,l4,l5,l9,q1,q2,q3,q4,w1,w2,w3,w4,w5,w6,w7,w8,u1,u2,u3,u4,u5,u6]
theorem t_rWrite (F:Nat) (hF:F≤140737488355328) (B:Nat) (hB:B<F) (d n:Nat) (x:Tlv) (hd0:d≤1000000) (hd:x.depth≤d) (hw:x.width B) (hen:x.enc.length<16777216):
  callN (envG G) F (n+d+1) 49 [.d (.agg x.cells)]=some ⟨[.d (if badW x=0 then .nums .u8 false x.enc else .nums .u8 true []),.d (.int .i64 (badW x))],[]⟩:=by
 have k1:=t_rfine (G:=G) F hF B hB d n x hd hw
 have k2:=t_rdepth (G:=G) F hF B hB d n x hd0 hd hw
 have k3:=fun h=>t_bytes (G:=G) F hF B hB d n x hd hw h hen
 unfold badW
 obtain⟨c,t,m,bn,b,kn,ks⟩:=x
 simp only[Tlv.cells] at k1 k2 k3⊢
 generalize hx:Tlv.mk c t m bn b kn ks=x at*
 rw[callN_run (fn:=Tryz.f49) rfl rfl rfl (by simp[Tryz.ntmps49])]
 generalize hC:(envG G).ctx 49 (callN (envG G) F (n+d)) (callP (envG G) F (n+d))=C
 have htt:C.tt=(envG G).tt:=by rw[←hC];rfl
 have hlin:C.lin=[]:=by rw[←hC];rfl
 have hreg:C.reg=reg49:=by rw[←hC];rfl
 have hcall:C.call=callN (envG G) F (n+d):=by rw[←hC];rfl
 have hcallP:C.callP=callP (envG G) F (n+d):=by rw[←hC];rfl
 cases hf:x.fine with
 |false=>
  rw[hf] at k1
  simp[htt,hlin,hreg,reg49,hcall,hcallP,k1]
 |true=>
  rw[hf] at k1
  have k3' :=k3 hf
  by_cases h16:16<x.depth
  ·have h16' :(16:Int)<x.depth:=by omega
   simp[htt,hlin,hreg,reg49,hcall,hcallP,k1,k2,h16,h16']
  ·have h16' : ¬(16:Int)<x.depth:=by omega
   by_cases hl:1048576<x.enc.length
   ·have hl' :(1048576:Int)<x.enc.length:=by omega
    simp[htt,hlin,hreg,reg49,hcall,hcallP,k1,k2,k3',h16,h16',hl,hl']
   ·have hl' : ¬(1048576:Int)<x.enc.length:=by omega
    simp[htt,hlin,hreg,reg49,hcall,hcallP,k1,k2,k3',h16,h16',hl,hl']
end Go.Proofs.YthpmkmogoejjpaaGreatDoor
set_option linter.unusedSimpArgs false
set_option linter.unusedVariables false
namespace Go.Proofs.YthpmkmogoejjpaaGreatDoor
open Go Go.VM
variable {G : GE}
set_option maxRecDepth 100000
set_option maxHeartbeats 4000000
theorem loop_rnumof {m:Nat} {C:Ctx} {F:Nat} (hC:(envG G).ctx 107 (callN (envG G) F (m)) (callP (envG G) F (m))=C) {c:Code} (hc:loopAt 2 Tryz.f107=some c) (nl:Bool) (xs:List Int) (hx:xs.length≤140737488355328) (os:List Pl) (hos:os=[]∨os=[.t 0]):
  ∀(ys:List Int) (i k:Nat) (st:St),xs.drop i=ys→i≤xs.length→ys.length<k→st.trim 0 [0,4]=⟨[(0,.d (.nums .u8 nl xs)),(4,.d (.int .i64 i))],[],os⟩→
   iter (ev C F c) 0 [0,4] [0,2,3,4] k st=some (.exit 0,⟨[(0,.d (.nums .u8 nl xs)),(4,.d (.int .i64 (i+lead ys:Nat)))],[],os⟩):=by
 have htt:C.tt=(envG G).tt:=by rw[←hC];rfl
 have hlin:C.lin=[23,5,39,38,3,2,19,36]:=by rw[←hC];rfl
 have hreg:C.reg=reg107:=by rw[←hC];rfl
 have hcall:C.call=callN (envG G) F (m):=by rw[←hC];rfl
 have hcallP:C.callP=callP (envG G) F (m):=by rw[←hC];rfl
 have hlv_2:C.live 2=[0,4]:=by rw[←hC];rfl
 have hlv_100002:C.live 100002=[0,2,3,4]:=by rw[←hC];rfl
 have hev: ∀st,ev C F c st=ev C F ((loopAt 2 Tryz.f107).getD .skip) st:=fun st=>by rw[hc];rfl
 intro ys
 induction ys with
 |nil=>
  intro i k st hd hi hk hst
  obtain⟨k,rfl⟩: ∃j,k=j+1:=⟨k-1,by simp at hk;omega⟩
  have h0:=drop_nil hd
  have e0: ¬((i:Int)<(xs.length:Int)):=by omega
  rw[iter_eq,hst,hev]
  rcases hos with rfl|rfl<;>simp[loopAt,findLoop,Tryz.f107,htt,hlin,hreg,reg107,hcall,hcallP,hlv_2,hlv_100002,e0,lead]
 |cons b t ih=>
  intro i k st hd hi hk hst
  obtain⟨k,rfl⟩: ∃j,k=j+1:=⟨k-1,by simp at hk;omega⟩
  simp at hk
  obtain⟨ht,hlt⟩:=drop_succ hd
  have hb:=at_of_drop hd
  have e0:(i:Int)<(xs.length:Int):=by omega
  have e1:(i:Int)+1≤9223372036854775807:=by omega
  have e2:(-9223372036854775808:Int)≤(i:Int)+1:=by omega
  rw[iter_eq,hst,hev]
  by_cases h:b=0
  ·subst h
   have ih' :=fun st h=>ih (i+1) k st ht (by omega) hk h
   rw[show i+1+lead t=i+(lead t+1) by omega] at ih'
   simp at ih'
   rcases hos with rfl|rfl
   ·simp[loopAt,findLoop,Tryz.f107,htt,hlin,hreg,reg107,hcall,hcallP,hlv_2,hlv_100002,e0,hb,e1,e2,lead]
    exact ih' _ (by simp)
   ·simp[loopAt,findLoop,Tryz.f107,htt,hlin,hreg,reg107,hcall,hcallP,hlv_2,hlv_100002,e0,hb,e1,e2,lead]
    exact ih' _ (by simp)
  ·rcases hos with rfl|rfl<;>simp[loopAt,findLoop,Tryz.f107,htt,hlin,hreg,reg107,hcall,hcallP,hlv_2,hlv_100002,e0,hb,h,lead]
theorem t_rNumberOf (F n:Nat) (nl:Bool) (xs:List Int) (hx:xs.length≤140737488355327) (hf:xs.length<F):callN (envG G) F (n+1) 107 [.d (.nums .u8 nl xs)]=some (match numberOf xs with
  | .inl e=>⟨[.d (.nums .u8 true []),.d (.int .i64 e)],[0]⟩
  | .inr ys=>⟨[.d (.nums .u8 false ys),.d (.int .i64 0)],[0]⟩):=by
 rw[callN_run (fn:=Tryz.f107) rfl rfl rfl (by simp[Tryz.ntmps107])]
 generalize hC:(envG G).ctx 107 (callN (envG G) F (n)) (callP (envG G) F (n))=C
 have htt:C.tt=(envG G).tt:=by rw[←hC];rfl
 have hlin:C.lin=[23,5,39,38,3,2,19,36]:=by rw[←hC];rfl
 have hreg:C.reg=reg107:=by rw[←hC];rfl
 have hcall:C.call=callN (envG G) F (n):=by rw[←hC];rfl
 have hcallP:C.callP=callP (envG G) F (n):=by rw[←hC];rfl
 have hlv_2:C.live 2=[0,4]:=by rw[←hC];rfl
 have hlv_100002:C.live 100002=[0,2,3,4]:=by rw[←hC];rfl
 have hL:=fun os hos st h=>loop_rnumof (G:=G) hC rfl nl xs (by omega) os hos xs 0 F st rfl (by omega) hf h
 simp only[Nat.zero_add] at hL
 have hs:=strip_len xs
 have hle:=lead_le xs
 have e1:(lead xs:Int)≤xs.length:=by omega
 unfold numberOf
 clear hC
 simp[htt,hlin,hreg,reg107,hcall,hcallP,hlv_2,hlv_100002,ev_loop]
 rw[hL [] (.inl rfl) _ (by simp)]
 cases hsx:strip xs with
 |nil=>
  simp[htt,hlin,hreg,reg107,hcall,hcallP,hlv_2,hlv_100002,hsx,e1,drop_lead]
 |cons b t=>
  rw[hsx] at hs
  simp at hs
  have e6:t.length+1≤140737488355328:=by omega
  have e8:t.length≤140737488355327:=by omega
  by_cases h1:64<t.length+1
  ·have e5:(64:Int)<(t.length:Int)+1:=by omega
   simp[htt,hlin,hreg,reg107,hcall,hcallP,hlv_2,hlv_100002,hsx,e1,drop_lead,h1,e5,e6,e8]
  ·have e5: ¬((64:Int)<(t.length:Int)+1):=by omega
   have e2: ¬((t.length:Int)+1=0):=by omega
   have e7:1+(t.length+1)≤140737488355328:=by omega
   by_cases h2:128≤b
   ·have h2' :127<b:=by omega
    simp[htt,hlin,hreg,reg107,hcall,hcallP,hlv_2,hlv_100002,hsx,e1,drop_lead,h1,e5,e6,e2,h2,h2',e7,e8]
   ·have h2' : ¬127<b:=by omega
    simp[htt,hlin,hreg,reg107,hcall,hcallP,hlv_2,hlv_100002,hsx,e1,drop_lead,h1,e5,e6,e2,h2,h2',e7,e8]
end Go.Proofs.YthpmkmogoejjpaaGreatDoor
set_option linter.unusedSimpArgs false
set_option linter.unusedVariables false
namespace Go.Proofs.YthpmkmogoejjpaaGreatDoor
open Go Go.VM
variable {G : GE}
set_option maxRecDepth 100000
set_option maxHeartbeats 8000000
end Go.Proofs.YthpmkmogoejjpaaGreatDoor
set_option linter.unusedSimpArgs false
set_option linter.unusedVariables false
namespace Go.Proofs.YthpmkmogoejjpaaGreatDoor
open Go Go.VM
variable {G : GE}
set_option maxRecDepth 100000
set_option maxHeartbeats 4000000
theorem t_lBytes (F n:Nat) (hF:60≤F) (a0 a1 a2 a3 a4 a5:Int):callN (envG G) F (n+3) 177 [.d (limbD [a0,a1,a2,a3,a4,a5])]=some ⟨[.d (.nums .u8 false (B6 [a0,a1,a2,a3,a4,a5]))],[0]⟩:=
 callN_mono hF (show 3≤n+3 by omega) (run_Bytes (G:=G) a0 a1 a2 a3 a4 a5)
theorem t_rBytes (F n:Nat) (hF:60≤F) {a:List Int} (ha:In64 a) (hl:a.length=6):callN (envG G) F (n+3) 108 [.d (.nums .u64 false (trimL (halves a))),.d (.int .i64 48)]=some ⟨[.d (.nums .u8 false (B6 a))],[0]⟩:=by
 have h1:=trimL_len (halves a)
 have h2:=cutL_le (halves a) (halves a).length
 have h3:(halves a).length=12:=by
  obtain⟨a0,a1,a2,a3,a4,a5,rfl⟩:=six hl
  rfl
 have k:=callN_mono hF (show 3≤n+3 by omega) (run_rBytes (G:=G) (fun j=>(halves a).getD j 0) (trimL (halves a)).length (by omega))
 rw[←trim_map,rbytes_eq ha] at k
 exact k
theorem t_number (F n:Nat) (hF:60≤F) (a0 a1 a2 a3 a4 a5:Int):callN (envG G) F (n+4) 155 [.d (limbD [a0,a1,a2,a3,a4,a5])]=some ⟨[.d (.agg (nT (bodyN [a0,a1,a2,a3,a4,a5])).cells),.d .nilifc],[]⟩:=by
 have k1:=t_lBytes (G:=G) F n hF a0 a1 a2 a3 a4 a5
 have k2:=t_NumberOf (G:=G) F (n+1) false (B6 [a0,a1,a2,a3,a4,a5]) (by simp) (by rw[B6_len];omega)
 rw[numberOf_B6] at k2
 simp only at k2
 simp only[nT,Tlv.cells,Tlv.cellsL]
 generalize bodyN [a0,a1,a2,a3,a4,a5]=ys at*
 generalize B6 [a0,a1,a2,a3,a4,a5]=bs at*
 simp only[limbD,List.map] at*
 rw[callN_run (fn:=Tryz.f155) rfl rfl rfl (by simp[Tryz.ntmps155])]
 generalize hC:(envG G).ctx 155 (callN (envG G) F (n+3)) (callP (envG G) F (n+3))=C
 have htt:C.tt=(envG G).tt:=by rw[←hC];rfl
 have hlin:C.lin=[]:=by rw[←hC];rfl
 have hreg:C.reg=reg155:=by rw[←hC];rfl
 have hcall:C.call=callN (envG G) F (n+3):=by rw[←hC];rfl
 have hcallP:C.callP=callP (envG G) F (n+3):=by rw[←hC];rfl
 clear hC
 simp[htt,hlin,hreg,reg155,hcall,hcallP,k1,k2]
theorem t_eEncode (hK:SubK G) (hg:GroupG G) (F:Nat) (hF:1048580<F) (hF2:F≤140737488355328) (n:Nat) (a0 a1 a2 a3 a4 a5 b0 b1 b2 b3 b4 b5:Int) (ha:In64 [a0,a1,a2,a3,a4,a5]) (hb:In64 [b0,b1,b2,b3,b4,b5]):
  callN (envG G) F (n+70) 88 [.d (sigD [a0,a1,a2,a3,a4,a5] [b0,b1,b2,b3,b4,b5])]=some (if isScalar [a0,a1,a2,a3,a4,a5]=true∧isScalar [b0,b1,b2,b3,b4,b5]=true then⟨[.d (.nums .u8 false (sigT [a0,a1,a2,a3,a4,a5] [b0,b1,b2,b3,b4,b5]).enc),.d .nilifc],[0]⟩ else⟨[.d (.nums .u8 true []),.d (err 3)],[]⟩):=by
 have k1:callN (envG G) F (n+69) _ _=_:=t_eScalar (G:=G) hK hg F (n+65) (by omega) a0 a1 a2 a3 a4 a5 ha
 have k2:callN (envG G) F (n+69) _ _=_:=t_eScalar (G:=G) hK hg F (n+65) (by omega) b0 b1 b2 b3 b4 b5 hb
 have k3:callN (envG G) F (n+69) _ _=_:=t_number (G:=G) F (n+65) (by omega) a0 a1 a2 a3 a4 a5
 have k4:callN (envG G) F (n+69) _ _=_:=t_number (G:=G) F (n+65) (by omega) b0 b1 b2 b3 b4 b5
 obtain⟨t1,t2,t3,t4⟩:=sigT_ok ha hb
 have hw:=weight_width (W:=1048576) (sigT [a0,a1,a2,a3,a4,a5] [b0,b1,b2,b3,b4,b5]) (by omega)
 have hle:=enc_le (sigT [a0,a1,a2,a3,a4,a5] [b0,b1,b2,b3,b4,b5])
 have hbw:badW (sigT [a0,a1,a2,a3,a4,a5] [b0,b1,b2,b3,b4,b5])=0:=by
  unfold badW
  rw[if_neg (by simp[t1]),if_neg (by omega),if_neg (by omega)]
 have k5:callN (envG G) F (n+69) _ _=_:=t_Write (G:=G) F hF2 1048576 (by omega) (by omega) 16 (n+3) (sigT [a0,a1,a2,a3,a4,a5] [b0,b1,b2,b3,b4,b5]) (by omega) t2 hw
 rw[hbw] at k5
 simp only[if_true,errD] at k5
 generalize (sigT [a0,a1,a2,a3,a4,a5] [b0,b1,b2,b3,b4,b5]).enc=en at*
 clear t1 t2 t3 t4 hw hle hbw ha hb hK hg
 simp only[sigT,nT,Tlv.cells,Tlv.cellsL] at*
 generalize bodyN [a0,a1,a2,a3,a4,a5]=u at*
 generalize bodyN [b0,b1,b2,b3,b4,b5]=w at*
 generalize isScalar [a0,a1,a2,a3,a4,a5]=sa at*
 generalize isScalar [b0,b1,b2,b3,b4,b5]=sb at*
 simp only[limbD,sigD,List.map,List.cons_append,List.nil_append] at*
 cases sa
 ·skip
  rw[callN_run (fn:=Tryz.f88) rfl rfl rfl (by simp[Tryz.ntmps88])]
  generalize hC:(envG G).ctx 88 (callN (envG G) F (n+69)) (callP (envG G) F (n+69))=C
  have htt:C.tt=(envG G).tt:=by rw[←hC];rfl
  have hlin:C.lin=[]:=by rw[←hC];rfl
  have hreg:C.reg=reg88:=by rw[←hC];rfl
  have hcall:C.call=callN (envG G) F (n+69):=by rw[←hC];rfl
  have hcallP:C.callP=callP (envG G) F (n+69):=by rw[←hC];rfl
  clear hC
  unfold err
  simp[htt,hlin,hreg,reg88,hcall,hcallP,k1]
 ·cases sb
  ·skip
   rw[callN_run (fn:=Tryz.f88) rfl rfl rfl (by simp[Tryz.ntmps88])]
   generalize hC:(envG G).ctx 88 (callN (envG G) F (n+69)) (callP (envG G) F (n+69))=C
   have htt:C.tt=(envG G).tt:=by rw[←hC];rfl
   have hlin:C.lin=[]:=by rw[←hC];rfl
   have hreg:C.reg=reg88:=by rw[←hC];rfl
   have hcall:C.call=callN (envG G) F (n+69):=by rw[←hC];rfl
   have hcallP:C.callP=callP (envG G) F (n+69):=by rw[←hC];rfl
   clear hC
   unfold err
   simp[htt,hlin,hreg,reg88,hcall,hcallP,k1,k2]
  ·skip
   rw[callN_run (fn:=Tryz.f88) rfl rfl rfl (by simp[Tryz.ntmps88])]
   generalize hC:(envG G).ctx 88 (callN (envG G) F (n+69)) (callP (envG G) F (n+69))=C
   have htt:C.tt=(envG G).tt:=by rw[←hC];rfl
   have hlin:C.lin=[]:=by rw[←hC];rfl
   have hreg:C.reg=reg88:=by rw[←hC];rfl
   have hcall:C.call=callN (envG G) F (n+69):=by rw[←hC];rfl
   have hcallP:C.callP=callP (envG G) F (n+69):=by rw[←hC];rfl
   clear hC
   simp[htt,hlin,hreg,reg88,hcall,hcallP,k1,k2,k3,k4,k5]
end Go.Proofs.YthpmkmogoejjpaaGreatDoor
set_option linter.unusedSimpArgs false
set_option linter.unusedVariables false
namespace Go.Proofs.YthpmkmogoejjpaaGreatDoor
open Go Go.VM
def rows (l:List (Int×List Int)):List (List D):=l.map fun p=>[.int .i64 p.1,.str p.2]
def odd (c:Int):Bool:=decide (c<32∨126<c)
def textBad (s:List Int):Int:=if 64<s.length then 2 else if s=[] then 7 else if s.any odd then 7 else 0
def isKind (k:Int):Bool:=decide (k=3∨k=6∨k=10∨k=11)
def partOk (p:Int×List Int):Bool:=isKind p.1 && decide (textBad p.2=0)
def may (l:List (Int×List Int)):Bool:=decide (l.length≤8) && l.all partOk
def leafD (tag:Int) (b:List Int):List D:=[.int .i64 0,.int .i64 tag,.bool false,.nums .u8 false b,.sl 5 true []]
def nodeD (tag:Int) (nl:Bool) (kids:List (List D)):List D:=[.int .i64 0,.int .i64 tag,.bool true,.nums .u8 true [],.sl 5 nl kids]
def partD (p:Int×List Int):List D:=nodeD 17 false [nodeD 16 false [leafD 6 [85,4,p.1],leafD 12 p.2]]
def nameD (l:List (Int×List Int)):List D:=nodeD 16 l.isEmpty (l.map partD)
def leafT (tag:Int) (b:List Int):Tlv:= .mk 0 tag false false b true []
def nodeT (tag:Int) (nl:Bool) (kids:List Tlv):Tlv:= .mk 0 tag true true [] nl kids
def partT (p:Int×List Int):Tlv:=nodeT 17 false [nodeT 16 false [leafT 6 [85,4,p.1],leafT 12 p.2]]
def nameT (a:List (Int×List Int)):Tlv:=nodeT 16 a.isEmpty (a.map partT)
theorem depth_parts: ∀a:List (Int×List Int),Tlv.depthL (a.map partT)≤3
 |[]=>by simp[Tlv.depthL]
 |p::a=>by
  have:=depth_parts a
  have h2:(partT p).depth=3:=by simp[partT,nodeT,leafT,Tlv.depth,Tlv.depthL]
  simp only[List.map_cons,Tlv.depthL,h2]
  omega
theorem weight_parts: ∀a:List (Int×List Int),(∀p∈a,p.2.length≤64)→Tlv.weightL (a.map partT)≤71*a.length
 |[],_=>by simp[Tlv.weightL]
 |p::a,h=>by
  have h1:=weight_parts a fun q hq=>h q (List.mem_cons_of_mem _ hq)
  have h2:=h p (List.mem_cons_self ..)
  simp only[List.map_cons,Tlv.weightL,List.length_cons,partT,nodeT,leafT,Tlv.weight,List.length_nil]
  omega
def oidAlg:List Int:=[42,134,72,206,61,4,3,3]
def algT:Tlv:= .mk 0 16 true true [] false [.mk 0 6 false false oidAlg true []]
end Go.Proofs.YthpmkmogoejjpaaGreatDoor
