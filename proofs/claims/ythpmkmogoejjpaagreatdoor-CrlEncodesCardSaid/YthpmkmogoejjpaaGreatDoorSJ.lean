/- Numbers of bytes: plain. -/
import Derived.Test.YthpmkmogoejjpaaGreatDoorSI
import Derived.Test.YthpmkmogoejjpaaGreatDoorSD
import Derived.Test.YthpmkmogoejjpaaGreatDoorSG
import Derived.Test.YthpmkmogoejjpaaGreatDoorSC
set_option linter.unusedSimpArgs false
set_option linter.unusedVariables false
namespace Go.Proofs.YthpmkmogoejjpaaGreatDoor
open Go Go.VM
set_option maxRecDepth 100000
set_option maxHeartbeats 4000000
def sumQ (h:Nat→Int):Nat→Int
 |0=>0
 |n+1=>sumQ h n+h n*4294967296^n
theorem vL_range (h:Nat→Int): ∀n,vL ((List.range n).map h)=sumQ h n
 |0=>rfl
 |n+1=>by
  rw[List.range_succ,List.map_append,vL_append,vL_range h n]
  simp only[List.map_cons,List.map_nil,vL,List.length_map,List.length_range,Int.mul_zero,Int.add_zero,sumQ]
  rw[Int.mul_comm]
def sB (f:Nat→Int):Nat→Int
 |0=>0
 |k+1=>sB f k+f k*256^k
theorem sB_congr {f g:Nat→Int}: ∀n,(∀k,k<n→f k=g k)→sB f n=sB g n
 |0,_=>rfl
 |n+1,h=>by simp only[sB,sB_congr n (fun k hk=>h k (by omega)),h n (by omega)]
def cutF (b:List Int) (k:Nat):Int:=if k<b.length then b.getD (b.length-1-k) 0 else 0
theorem fdig_cut (b:List Int) (q:Nat):fdig b b.length q=cutF b (4*q)+cutF b (4*q+1)*256+cutF b (4*q+2)*65536+cutF b (4*q+3)*16777216:=by
 unfold fdig fpart cutF
 simp only[Int.reducePow,Nat.add_zero,Int.mul_one]
 split<;>split<;>split<;>split<;>omega
theorem sumQ_cut (b:List Int): ∀n,sumQ (fdig b b.length) n=sB (cutF b) (4*n)
 |0=>rfl
 |n+1=>by
  rw[show 4*(n+1)=4*n+1+1+1+1 by omega]
  simp only[sB,sumQ,sumQ_cut b n,fdig_cut]
  have e:(4294967296:Int)^n=256^(4*n):=by rw[Int.pow_mul];rfl
  have e1:(256:Int)^(4*n+1)=256*256^(4*n):=by rw[Int.pow_succ];exact Int.mul_comm ..
  have e2:(256:Int)^(4*n+1+1)=65536*256^(4*n):=by rw[Int.pow_succ,e1];omega
  have e3:(256:Int)^(4*n+1+1+1)=16777216*256^(4*n):=by rw[Int.pow_succ,e2];omega
  rw[e,e1,e2,e3]
  generalize (256:Int)^(4*n)=P
  generalize cutF b (4*n)=w
  rw[show 4*n+1+1=4*n+2 by omega,show 4*n+2+1=4*n+3 by omega]
  generalize cutF b (4*n+1)=x
  generalize cutF b (4*n+2)=y
  generalize cutF b (4*n+3)=z
  simp only[Int.add_mul,Int.mul_assoc]
  omega
theorem sB_zero (b:List Int): ∀d,sB (cutF b) (b.length+d)=sB (cutF b) b.length
 |0=>rfl
 |d+1=>by
  rw[show b.length+(d+1)=b.length+d+1 by omega]
  simp only[sB,sB_zero b d]
  have:cutF b (b.length+d)=0:=by unfold cutF;rw[if_neg (by omega)]
  rw[this];omega
theorem val_acc: ∀(t:List Int) (v:Int),val v t=v*256^t.length+val 0 t
 |[],v=>by simp[val]
 |x::t,v=>by
  simp only[val,List.length_cons,Int.zero_mul,Int.zero_add]
  rw[val_acc t (v*256+x),val_acc t x,Int.pow_succ,Int.add_mul,Int.mul_assoc,Int.mul_comm 256]
  omega
theorem sB_val: ∀b:List Int,sB (cutF b) b.length=val 0 b
 |[]=>rfl
 |x::t=>by
  have ih:=sB_val t
  have h1:sB (cutF (x::t)) t.length=sB (cutF t) t.length:=sB_congr _ fun k hk=>by
   unfold cutF
   rw[if_pos (by simp only[List.length_cons];omega),if_pos hk]
   have:(x::t).length-1-k=(t.length-1-k)+1:=by simp only[List.length_cons];omega
   rw[this]
   simp[List.getD]
  have h2:cutF (x::t) t.length=x:=by
   unfold cutF
   rw[if_pos (by simp)]
   simp
  simp only[List.length_cons,sB,h1,h2,ih,val,Int.zero_mul,Int.zero_add]
  rw[val_acc t x]
  omega
theorem fromL_val (b:List Int):vL (fromL b b.length)=val 0 b:=by
 unfold fromL
 rw[vL_range,sumQ_cut]
 have h:4*(b.length/4+1)=b.length+(4*(b.length/4+1)-b.length):=by omega
 rw[h,sB_zero,sB_val]
theorem fromL_in {b:List Int} (hb: ∀c∈b,0≤c∧c<256) (i:Nat):In32 (fromL b i):=by
 intro x hx
 unfold fromL at hx
 rw[List.mem_map] at hx
 obtain⟨q,_,rfl⟩:=hx
 exact fdig_in hb i q
theorem val_nonneg {b:List Int} (hb: ∀c∈b,0≤c∧c<256):0≤val 0 b:=by
 have:=vL_nonneg _ (fromL_in hb b.length)
 rwa [fromL_val] at this
def digs (b:List Int):List Int:=trimL (fromL b b.length)
end Go.Proofs.YthpmkmogoejjpaaGreatDoor
namespace Go.Proofs.YthpmkmogoejjpaaGreatDoor
open Go Go.VM
set_option linter.unusedSimpArgs false
set_option linter.unusedVariables false
theorem sizeB_bytes {n:Nat} (h:n<16777216): ∀c∈sizeB n,0≤c∧c<256:=by
 intro c hc
 unfold sizeB at hc
 split at hc
 ·simp only[List.mem_singleton] at hc;omega
 ·split at hc
  ·simp only[List.mem_cons,List.not_mem_nil,or_false] at hc;omega
  ·split at hc
   ·simp only[List.mem_cons,List.not_mem_nil,or_false] at hc;omega
   ·simp only[List.mem_cons,List.not_mem_nil,or_false] at hc;omega
mutual
theorem enc_bytes: ∀x:Tlv,x.fine=true→x.bytesOk→x.enc.length<16777216→ ∀c∈x.enc,0≤c∧c<256
 | .mk k t m bn b kn ks,hf,hb,hl=>by
  simp only[Tlv.fine,Bool.and_eq_true,decide_eq_true_eq] at hf
  obtain⟨⟨c0,c3,t0,t30,_,_⟩,hfl⟩:=hf
  simp only[Tlv.enc,headB,List.length_append,List.length_cons] at hl
  have hk:=encL_bytes ks hfl hb.2 (by omega)
  have hs:=sizeB_bytes (n:=b.length+(Tlv.encL ks).length) (by omega)
  intro c hc
  simp only[Tlv.enc,headB,List.length_append,List.cons_append,List.mem_cons,List.mem_append] at hc
  rcases hc with rfl|hc|hc|hc
  ·cases m<;>simp<;>omega
  ·exact hs c hc
  ·exact hb.1 c hc
  ·exact hk c hc
theorem encL_bytes: ∀l:List Tlv,Tlv.fineL l=true→Tlv.bytesOkL l→(Tlv.encL l).length<16777216→ ∀c∈Tlv.encL l,0≤c∧c<256
 |[],_,_,_=>by simp[Tlv.encL]
 |x::l,hf,hb,hl=>by
  simp only[Tlv.fineL,Bool.and_eq_true] at hf
  simp only[Tlv.encL,List.length_append] at hl
  intro c hc
  simp only[Tlv.encL,List.mem_append] at hc
  rcases hc with hc|hc
  ·exact enc_bytes x hf.1 hb.1 (by omega) c hc
  ·exact encL_bytes l hf.2 hb.2 (by omega) c hc
end
end Go.Proofs.YthpmkmogoejjpaaGreatDoor
set_option linter.unusedSimpArgs false
set_option linter.unusedVariables false
namespace Go.Proofs.YthpmkmogoejjpaaGreatDoor
open Go Go.VM
set_option maxRecDepth 100000
set_option maxHeartbeats 4000000
theorem B6_bytes {a:List Int} (ha:In64 a): ∀c∈B6 a,0≤c∧c<256:=by
 intro c hc
 unfold B6 at hc
 rw[List.mem_map] at hc
 obtain⟨j,_,rfl⟩:=hc
 unfold byteOf
 rw[u8_wrap]
 omega
theorem B6_len (a:List Int):(B6 a).length=48:=by simp[B6]
def bodyN (a:List Int):List Int:=match numberOf (B6 a) with| .inl _=>[]| .inr ys=>ys
theorem numberOf_B6 (a:List Int):numberOf (B6 a)= .inr (bodyN a):=by
 have h1:=strip_len (B6 a)
 rw[B6_len] at h1
 have: ∃ys,numberOf (B6 a)= .inr ys:=by
  unfold numberOf
  rw[if_neg (by omega)]
  split
  ·exact⟨_,rfl⟩
  ·split
   ·exact⟨_,rfl⟩
   ·exact⟨_,rfl⟩
 obtain⟨ys,hy⟩:=this
 unfold bodyN
 rw[hy]
theorem bodyN_len (a:List Int):(bodyN a).length≤49:=by
 have h1:=strip_len (B6 a)
 rw[B6_len] at h1
 have h:=numberOf_B6 a
 unfold numberOf at h
 rw[if_neg (by omega)] at h
 split at h
 ·injection h with h;rw[←h];simp
 ·rename_i b t hs
  rw[hs] at h1
  simp only[List.length_cons] at h1
  split at h
  ·injection h with h;rw[←h];simp only[List.length_cons];omega
  ·injection h with h;rw[←h];simp only[List.length_cons];omega
theorem strip_bytes {xs:List Int} (h: ∀c∈xs,0≤c∧c<256): ∀c∈strip xs,0≤c∧c<256:=by
 rw[←drop_lead]
 exact fun c hc=>h c (List.mem_of_mem_drop hc)
theorem bodyN_bytes {a:List Int} (ha:In64 a): ∀c∈bodyN a,0≤c∧c<256:=by
 have h1:=strip_len (B6 a)
 rw[B6_len] at h1
 have hb:=strip_bytes (B6_bytes ha)
 have h:=numberOf_B6 a
 unfold numberOf at h
 rw[if_neg (by omega)] at h
 split at h
 ·injection h with h;rw[←h];simp
 ·rename_i b t hs
  rw[hs] at hb
  split at h
  ·injection h with h;rw[←h]
   intro c hc
   rcases List.mem_cons.1 hc with rfl|hc
   ·omega
   ·exact hb c hc
  ·injection h with h;rw[←h];exact hb
def nT (b:List Int):Tlv:= .mk 0 2 false false b true []
def sigT (r s:List Int):Tlv:= .mk 0 16 true true [] false [nT (bodyN r),nT (bodyN s)]
theorem sigT_ok {r s:List Int} (hr:In64 r) (hs:In64 s):(sigT r s).fine=true∧(sigT r s).depth≤16∧(sigT r s).weight≤200∧(sigT r s).bytesOk:=by
 have h1:=bodyN_len r
 have h2:=bodyN_len s
 refine⟨?_, ?_, ?_, ?_⟩
 ·simp[sigT,nT,Tlv.fine,Tlv.fineL]
 ·simp[sigT,nT,Tlv.depth,Tlv.depthL]
 ·simp only[sigT,nT,Tlv.weight,Tlv.weightL,List.length_nil]
  omega
 ·exact⟨by simp,⟨bodyN_bytes hr,trivial⟩,⟨bodyN_bytes hs,trivial⟩,trivial⟩
end Go.Proofs.YthpmkmogoejjpaaGreatDoor
set_option linter.unusedSimpArgs false
set_option linter.unusedVariables false
namespace Go.Proofs.YthpmkmogoejjpaaGreatDoor
open Go Go.VM
variable {G : GE}
set_option maxRecDepth 100000
set_option maxHeartbeats 4000000
theorem loop_rfine {C:Ctx} {F m:Nat} (htt:C.tt=(envG G).tt) (hlin:C.lin=[]) (hreg:C.reg=reg109) (hcall:C.call=callN (envG G) F m) {c:Code}
  (hc:loopAt 6 Tryz.f109=some c) (p0 p1 p2 p3:D) (nl:Bool) (a:List Tlv) (ha:a.length≤140737488355328)
  (hg: ∀x∈a,callN (envG G) F m 109 [.d (.agg x.cells)]=some ⟨[.d (.bool x.fine)],[]⟩):
  ∀(us:List Tlv) (i k:Nat) (st:St),a.drop i=us→i≤a.length→us.length<k→
   st.trim 1 [1,3]=⟨[(1,.ptr 0 0),(3,.d (.int .i64 i))],[some (.cells false [.d p0,.d p1,.d p2,.d p3,.d (.sl 5 nl (Tlv.cellsL a))])],[]⟩→
   ∃bs,iter (ev C F c) 1 [1,3] [2] k st=if Tlv.fineL us then some (.exit 0,⟨[],bs,[]⟩) else some (.ret,⟨[(2,.d (.bool false))],bs,[]⟩):=by
 have hev: ∀st,ev C F c st=ev C F ((loopAt 6 Tryz.f109).getD .skip) st:=fun st=>by rw[hc];rfl
 intro us
 induction us with
 |nil=>
  intro i k st hd hi hk hst
  obtain⟨k,rfl⟩: ∃j,k=j+1:=⟨k-1,by simp at hk;omega⟩
  have h0:=drop_nil hd
  have e0: ¬((i:Int)<(a.length:Int)):=by omega
  rw[iter_eq,hst,hev]
  simp[loopAt,findLoop,Tryz.f109,htt,hlin,hreg,reg109,e0,Tlv.fineL,cellsL_len]
 |cons x us ih=>
  intro i k st hd hi hk hst
  obtain⟨k,rfl⟩: ∃j,k=j+1:=⟨k-1,by simp at hk;omega⟩
  simp at hk
  obtain⟨hd2,hlt⟩:=drop_succ hd
  have ra:=cellsL_at hd
  have hx:=hg x (List.mem_of_getElem? (at_of_drop hd))
  have e0:(i:Int)<(a.length:Int):=by omega
  have e1:(i:Int)+1≤9223372036854775807:=by omega
  have e2:(-9223372036854775808:Int)≤(i:Int)+1:=by omega
  rw[iter_eq,hst,hev]
  simp only[Tlv.fineL]
  have ih' :=fun st h=>ih (i+1) k st hd2 (by omega) hk h
  obtain⟨c1,t,md,bn,b,kx,ks⟩:=x
  simp only[Tlv.cells] at ra hx
  rcases Bool.eq_false_or_eq_true (Tlv.fine (.mk c1 t md bn b kx ks)) with hs|hs
  case inr=>
   rw[hs] at hx
   simp[loopAt,findLoop,Tryz.f109,htt,hlin,hreg,reg109,hcall,e0,e1,e2,ra,hx,hs,cellsL_len]
  case inl=>
   rw[hs] at hx
   simp[loopAt,findLoop,Tryz.f109,htt,hlin,hreg,reg109,hcall,e0,e1,e2,ra,hx,hs,cellsL_len]
   simp at ih'
   exact ih' _ (by simp)
end Go.Proofs.YthpmkmogoejjpaaGreatDoor
set_option linter.unusedSimpArgs false
set_option linter.unusedVariables false
namespace Go.Proofs.YthpmkmogoejjpaaGreatDoor
open Go Go.VM
variable {G : GE}
set_option maxRecDepth 100000
set_option maxHeartbeats 4000000
theorem t_rfine (F:Nat) (hF:F≤140737488355328) (B:Nat) (hB:B<F): ∀(d n:Nat) (x:Tlv),x.depth≤d→x.width B→
  callN (envG G) F (n+d) 109 [.d (.agg x.cells)]=some ⟨[.d (.bool x.fine)],[]⟩:=by
 intro d
 induction d with
 |zero=>intro n x hd;cases x;simp[Tlv.depth] at hd
 |succ d ih=>
  intro n x hd hw
  obtain⟨c,t,m,bn,b,kn,ks⟩:=x
  simp only[Tlv.depth] at hd
  simp only[Tlv.width] at hw
  have hkl:ks.length≤B:=hw.2.1
  simp only[Tlv.cells]
  rw[show n+(d+1)=n+d+1 by omega]
  have hcl:=cellsL_len ks
  rw[callN_run (fn:=Tryz.f109) rfl rfl rfl (by simp[Tryz.ntmps109])]
  generalize hC:(envG G).ctx 109 (callN (envG G) F (n+d)) (callP (envG G) F (n+d))=C
  have htt:C.tt=(envG G).tt:=by rw[←hC];rfl
  have hlin:C.lin=[]:=by rw[←hC];rfl
  have hreg:C.reg=reg109:=by rw[←hC];rfl
  have hcall:C.call=callN (envG G) F (n+d):=by rw[←hC];rfl
  have hcallP:C.callP=callP (envG G) F (n+d):=by rw[←hC];rfl
  have hlv_6:C.live 6=[1,3]:=by rw[←hC];rfl
  have hlv_100006:C.live 100006=[2]:=by rw[←hC];rfl
  have hL0:=fun st h=>loop_rfine (G:=G) htt hlin hreg hcall rfl (.int .i64 c) (.int .i64 t) (.bool m) (.nums .u8 bn b) kn ks (by omega)
   (fun x hx=>ih n x (by have:=depthL_mem hx;omega) (widthL_mem hw.2.2 hx)) ks 0 F st rfl (by omega) (by omega) h
  have hL:=fun st h=>Classical.choose_spec (hL0 st h)
  clear hC ih
  simp only[Tlv.fine]
  by_cases h1:c<0
  ·rw[decide_eq_false (by omega)]
   simp[htt,hlin,hreg,reg109,hcall,hcallP,hlv_6,hlv_100006,h1]
  by_cases h2:3<c
  ·rw[decide_eq_false (by omega)]
   simp[htt,hlin,hreg,reg109,hcall,hcallP,hlv_6,hlv_100006,h1,h2]
  by_cases h3:t<0
  ·rw[decide_eq_false (by omega)]
   simp[htt,hlin,hreg,reg109,hcall,hcallP,hlv_6,hlv_100006,h1,h2,h3]
  by_cases h4:30<t
  ·rw[decide_eq_false (by omega)]
   simp[htt,hlin,hreg,reg109,hcall,hcallP,hlv_6,hlv_100006,h1,h2,h3,h4]
  cases m with
  |true=>
   by_cases h5:b=[]
   ·subst h5
    rw[decide_eq_true ⟨by omega,by omega,by omega,by omega,by simp,by simp⟩,Bool.true_and]
    rcases Bool.eq_false_or_eq_true (Tlv.fineL ks) with hf|hf
    ·simp only[hf,if_true] at hL⊢
     simp at hL
     simp[htt,hlin,hreg,reg109,hcall,hcallP,hlv_6,hlv_100006,h1,h2,h3,h4,ev_loop]
     rw[hL _ (by simp)]
     simp[htt,hlin,hreg,reg109,hcall,hcallP,hlv_6,hlv_100006]
    ·simp only[hf,Bool.false_eq_true,if_false] at hL⊢
     simp at hL
     simp[htt,hlin,hreg,reg109,hcall,hcallP,hlv_6,hlv_100006,h1,h2,h3,h4,ev_loop]
     rw[hL _ (by simp)]
     simp[htt,hlin,hreg,reg109,hcall,hcallP,hlv_6,hlv_100006]
   ·rw[decide_eq_false (fun h=>h5 (h.2.2.2.2.1 rfl))]
    have h6:0<b.length:=by
     have:b.length≠0:=fun h=>h5 (List.length_eq_zero_iff.1 h)
     omega
    simp[htt,hlin,hreg,reg109,hcall,hcallP,hlv_6,hlv_100006,h1,h2,h3,h4,h6]
  |false=>
   by_cases h5:ks=[]
   ·subst h5
    rw[decide_eq_true ⟨by omega,by omega,by omega,by omega,by simp,by simp⟩,Bool.true_and]
    simp only[Tlv.fineL,if_true] at hL⊢
    simp[Tlv.cellsL] at hL
    simp[htt,hlin,hreg,reg109,hcall,hcallP,hlv_6,hlv_100006,h1,h2,h3,h4,ev_loop,Tlv.cellsL]
    rw[hL _ (by simp)]
    simp[htt,hlin,hreg,reg109,hcall,hcallP,hlv_6,hlv_100006]
   ·rw[decide_eq_false (fun h=>h5 (h.2.2.2.2.2 rfl))]
    have h6:0<ks.length:=by
     have:ks.length≠0:=fun h=>h5 (List.length_eq_zero_iff.1 h)
     omega
    simp[htt,hlin,hreg,reg109,hcall,hcallP,hlv_6,hlv_100006,h1,h2,h3,h4,h6,hcl]
end Go.Proofs.YthpmkmogoejjpaaGreatDoor
set_option linter.unusedSimpArgs false
set_option linter.unusedVariables false
namespace Go.Proofs.YthpmkmogoejjpaaGreatDoor
open Go Go.VM
variable {G : GE}
set_option maxRecDepth 100000
set_option maxHeartbeats 4000000
def tlvK' (p0 p1 p2 p3:D) (x6:Bool) (x7:List Tlv):Blk:= .cells false [.d p0,.d p1,.d p2,.d p3,.d (.sl 5 x6 (Tlv.cellsL x7))]
theorem loop_bytes {m:Nat} {C:Ctx} {F:Nat} (hC:(envG G).ctx 111 (callN (envG G) F (m)) (callP (envG G) F (m))=C) {c:Code} (hc:loopAt 3 Tryz.f111=some c) (p0 p1 p2 p3:D) (nl:Bool) (a:List Tlv) (ha:a.length≤140737488355328)
  (hg: ∀x∈a,callN (envG G) F m 111 [.d (.agg x.cells)]=some ⟨[.d (.nums .u8 false x.enc)],[0]⟩):
  ∀(us:List Tlv) (i k:Nat) (o:List Int) (st:St),a.drop i=us→i≤a.length→us.length<k→o.length+(Tlv.encL us).length≤140737488355327→
   st.trim 1 [1,3,4]=⟨[(1,.ptr 0 0),(3,.d (.nums .u8 false o)),(4,.d (.int .i64 i))],[some (tlvK' p0 p1 p2 p3 nl a)],[.t 3]⟩→
   iter (ev C F c) 1 [1,3,4] [1,2,3] k st=some (.exit 0,⟨[(1,.ptr 0 0),(3,.d (.nums .u8 false (o++Tlv.encL us)))],[some (tlvK' p0 p1 p2 p3 nl a)],[.t 3]⟩):=by
 have htt:C.tt=(envG G).tt:=by rw[←hC];rfl
 have hlin:C.lin=[39,11,82,79,66,55,48,6,26,3,2,8,19,44,51,58,67,80]:=by rw[←hC];rfl
 have hreg:C.reg=reg111:=by rw[←hC];rfl
 have hcall:C.call=callN (envG G) F (m):=by rw[←hC];rfl
 have hcallP:C.callP=callP (envG G) F (m):=by rw[←hC];rfl
 have hlv_3:C.live 3=[1,3,4]:=by rw[←hC];rfl
 have hlv_100003:C.live 100003=[1,2,3]:=by rw[←hC];rfl
 have hev: ∀st,ev C F c st=ev C F ((loopAt 3 Tryz.f111).getD .skip) st:=fun st=>by rw[hc];rfl
 unfold tlvK'
 intro us
 induction us with
 |nil=>
  intro i k o st hd hi hk hzz hst
  obtain⟨k,rfl⟩: ∃j,k=j+1:=⟨k-1,by simp at hk;omega⟩
  have h0:=drop_nil hd
  have e0: ¬((i:Int)<(a.length:Int)):=by omega
  rw[iter_eq,hst,hev]
  simp[loopAt,findLoop,Tryz.f111,htt,hlin,hreg,reg111,hcall,hcallP,hlv_3,hlv_100003,e0,Tlv.encL,cellsL_len]
 |cons x us ih=>
  intro i k o st hd hi hk hzz hst
  obtain⟨k,rfl⟩: ∃j,k=j+1:=⟨k-1,by simp at hk;omega⟩
  simp at hk
  obtain⟨hd2,hlt⟩:=drop_succ hd
  have ra:=cellsL_at hd
  have hxm:=List.mem_of_getElem? (at_of_drop hd)
  simp only[Tlv.encL,List.length_append] at hzz⊢
  have hx:=hg x hxm
  have e0:(i:Int)<(a.length:Int):=by omega
  have e1:(i:Int)+1≤9223372036854775807:=by omega
  have e2:(-9223372036854775808:Int)≤(i:Int)+1:=by omega
  have ih' :=fun st h=>ih (i+1) k (o++x.enc) st hd2 (by omega) hk (by simp;omega) h
  have l1:o.length+x.enc.length≤140737488355328:=by omega
  have l2:o.length≤140737488355327:=by omega
  have l3:x.enc.length≤140737488355328:=by omega
  rw[iter_eq,hst,hev]
  rw[←List.append_assoc]
  obtain⟨c1,t,md,bn,b,kx,ks⟩:=x
  simp only[Tlv.cells] at ra hx
  generalize Tlv.enc (.mk c1 t md bn b kx ks)=s at*
  simp[loopAt,findLoop,Tryz.f111,htt,hlin,hreg,reg111,hcall,hcallP,hlv_3,hlv_100003,e0,e1,e2,ra,hx,cellsL_len,l1,l2,l3]
  simp at ih'
  exact ih' _ (by simp)
end Go.Proofs.YthpmkmogoejjpaaGreatDoor
