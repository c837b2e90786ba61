/- The reckoned size is the bytes' number: plain law. -/
import Derived.Test.YthpmkmogoejjpaaGreatDoorSD
import Derived.Test.YthpmkmogoejjpaaGreatDoorVMU
set_option linter.unusedSimpArgs false
set_option linter.unusedVariables false
namespace Go.Proofs.YthpmkmogoejjpaaGreatDoor
open Go Go.VM
theorem sizeB_len (n:Nat) (h:n<16777216):((sizeB n).length:Int)+1=headN n:=by
 unfold sizeB headN
 split
 ·rw[if_pos (by omega)];simp
 ·split
  ·rw[if_neg (by omega),if_pos (by omega)];simp
  ·split
   ·rw[if_neg (by omega),if_neg (by omega),if_pos (by omega)];simp
   ·rw[if_neg (by omega),if_neg (by omega),if_neg (by omega)];simp
theorem headN_pos (n:Int):2≤headN n∧headN n≤5:=headN_le n
mutual
theorem size_enc: ∀x:Tlv,(x.enc.length≤1048576→x.sizeN=x.enc.length)∧(1048576<x.enc.length→1048576<x.sizeN)
 | .mk c t m bn b kn ks=>by
  have h:=size_encL ks b.length (by omega)
  simp only[Tlv.sizeN,Tlv.enc,headB,List.length_append,List.length_cons]
  generalize hN:b.length+(Tlv.encL ks).length=N at*
  have hp:=headN_pos (Tlv.sizeL ks b.length)
  by_cases hs:N≤1048576
  ·have e:=h.1 (by omega)
   have hl:=sizeB_len N (by omega)
   rw[e]
   have e2:((b.length:Int)+(Tlv.encL ks).length)=(N:Int):=by omega
   rw[e2]
   omega
  ·have e:=h.2 (by omega)
   omega
theorem size_encL: ∀(l:List Tlv) (n:Int),0≤n→(n+(Tlv.encL l).length≤1048576→Tlv.sizeL l n=n+(Tlv.encL l).length)∧(1048576<n+(Tlv.encL l).length→1048576<Tlv.sizeL l n)
 |[],n,h0=>by simp[Tlv.sizeL,Tlv.encL]
 |x::l,n,h0=>by
  have hx:=size_enc x
  simp only[Tlv.sizeL,Tlv.encL,List.length_append]
  by_cases hn:n≤1048576
  ·rw[if_pos hn]
   by_cases he:x.enc.length≤1048576
   ·have e:=hx.1 he
    have:=size_encL l (n+x.sizeN) (by omega)
    omega
   ·have e:=hx.2 (by omega)
    have hbig: ∀(l:List Tlv) (m:Int),1048576<m→1048576<Tlv.sizeL l m:=by
     intro l
     cases l with
     |nil=>intro m hm;exact hm
     |cons y l=>intro m hm;simp only[Tlv.sizeL];rw[if_neg (by omega)];exact hm
    have:=hbig l (n+x.sizeN) (by omega)
    omega
  ·rw[if_neg hn]
   omega
end
end Go.Proofs.YthpmkmogoejjpaaGreatDoor
set_option linter.unusedSimpArgs false
set_option linter.unusedVariables false
namespace Go.Proofs.YthpmkmogoejjpaaGreatDoor
open Go Go.VM
variable {G : GE}
set_option maxRecDepth 100000
set_option maxHeartbeats 4000000
theorem loop_wA {C:Ctx} {F m:Nat} (htt:C.tt=(envG G).tt) (hlin:C.lin=[88,86,76,72,58,49,42,0,4,39,45,53,65,73,1000086,84]) (hreg:C.reg=reg87) (hcall:C.call=callN (envG G) F m) {c:Code}
  (hc:loopAt 6 Tryz.f87=some c) (o p5:D) (B:Blk) (hB:oldB 1 (some B)=some B) (nl:Bool) (a:List Tlv) (ha:a.length≤140737488355328)
  (hg: ∀x∈a,callN (envG G) F m 152 [.d (.agg x.cells)]=some ⟨[.d (.int .i64 x.sizeN)],[]⟩) (hs: ∀x∈a,x.sizeN=x.enc.length):
  ∀(us:List Tlv) (i k:Nat) (z:Int) (st:St),a.drop i=us→i≤a.length→us.length<k→0≤z→z+(Tlv.encL us).length≤1048576→
   st.trim 1 [0,3,5,6,28,29,30]=⟨[(0,.d o),(3,.ptr 0 0),(5,.d p5),(6,.d (.int .i64 z)),(28,.d (.sl 5 nl (Tlv.cellsL a))),(29,.d (.int .i64 a.length)),(30,.d (.int .i64 i))],[some B],[.t 0]⟩→
   iter (ev C F c) 1 [0,3,5,6,28,29,30] [0,3,4,5,6] k st=some (.exit 0,⟨[(0,.d o),(3,.ptr 0 0),(5,.d p5),(6,.d (.int .i64 (z+(Tlv.encL us).length)))],[some B],[.t 0]⟩):=by
 have hev: ∀st,ev C F c st=ev C F ((loopAt 6 Tryz.f87).getD .skip) st:=fun st=>by rw[hc];rfl
 intro us
 induction us with
 |nil=>
  intro i k z st hd hi hk hz hzz hst
  obtain⟨k,rfl⟩: ∃j,k=j+1:=⟨k-1,by simp at hk;omega⟩
  have h0:=drop_nil hd
  have e0: ¬((i:Int)<(a.length:Int)):=by omega
  rw[iter_eq,hst,hev]
  simp[loopAt,findLoop,Tryz.f87,htt,hlin,hreg,reg87,e0,Tlv.encL]
 |cons x us ih=>
  intro i k z st hd hi hk hz hzz hst
  obtain⟨k,rfl⟩: ∃j,k=j+1:=⟨k-1,by simp at hk;omega⟩
  simp at hk
  obtain⟨hd2,hlt⟩:=drop_succ hd
  have ra:=cellsL_at hd
  have hxm:=List.mem_of_getElem? (at_of_drop hd)
  have hx:=hg x hxm
  have hsx:=hs x hxm
  have e0:(i:Int)<(a.length:Int):=by omega
  have e1:(i:Int)+1≤9223372036854775807:=by omega
  have e2:(-9223372036854775808:Int)≤(i:Int)+1:=by omega
  simp only[Tlv.encL,List.length_append] at hzz⊢
  rw[hsx] at hx
  have e3:z+(x.enc.length:Int)≤9223372036854775807:=by omega
  have e4: -9223372036854775808≤z+(x.enc.length:Int):=by omega
  have ih' :=fun st h=>ih (i+1) k (z+x.enc.length) st hd2 (by omega) hk (by omega) (by omega) h
  rw[iter_eq,hst,hev]
  have el:z+((x.enc.length+(Tlv.encL us).length:Nat):Int)=z+x.enc.length+(Tlv.encL us).length:=by omega
  rw[el]
  obtain⟨c1,t,md,bn,b,kx,ks⟩:=x
  simp only[Tlv.cells] at ra hx
  generalize Tlv.enc (.mk c1 t md bn b kx ks)=s at*
  simp[loopAt,findLoop,Tryz.f87,htt,hlin,hreg,reg87,hcall,e0,e1,e2,e3,e4,ra,hx]
  exact ih' _ (by simp[hB])
theorem loop_wC {C:Ctx} {F m:Nat} (htt:C.tt=(envG G).tt) (hlin:C.lin=[88,86,76,72,58,49,42,0,4,39,45,53,65,73,1000086,84]) (hreg:C.reg=reg87) (hcall:C.callP=callP (envG G) F m) {c:Code}
  (hc:loopAt 21 Tryz.f87=some c) (B:Blk) (hB:oldB 1 (some B)=some B) (nl:Bool) (a:List Tlv) (ha:a.length≤140737488355328)
  (hg: ∀x∈a,∀o:List Int,o.length+x.enc.length≤2097152→callP (envG G) F m 87 [.d (.nums .u8 false o),.d (.agg x.cells)] [] [.t 0]=some ⟨[.d (.nums .u8 false (o++x.enc))],[0],[],[]⟩):
  ∀(us:List Tlv) (i k:Nat) (o:List Int) (st:St),a.drop i=us→i≤a.length→us.length<k→o.length+(Tlv.encL us).length≤2097152→
   st.trim 1 [0,78,79,80]=⟨[(0,.d (.nums .u8 false o)),(78,.d (.sl 5 nl (Tlv.cellsL a))),(79,.d (.int .i64 a.length)),(80,.d (.int .i64 i))],[some B],[.t 0]⟩→
   iter (ev C F c) 1 [0,78,79,80] [0,4] k st=some (.exit 4,⟨[(0,.d (.nums .u8 false (o++Tlv.encL us)))],[some B],[.t 0]⟩):=by
 have hev: ∀st,ev C F c st=ev C F ((loopAt 21 Tryz.f87).getD .skip) st:=fun st=>by rw[hc];rfl
 intro us
 induction us with
 |nil=>
  intro i k o st hd hi hk hzz hst
  obtain⟨k,rfl⟩: ∃j,k=j+1:=⟨k-1,by simp at hk;omega⟩
  have h0:=drop_nil hd
  have e0: ¬((i:Int)<(a.length:Int)):=by omega
  rw[iter_eq,hst,hev]
  simp[loopAt,findLoop,Tryz.f87,htt,hlin,hreg,reg87,e0,Tlv.encL]
 |cons x us ih=>
  intro i k o st hd hi hk hzz hst
  obtain⟨k,rfl⟩: ∃j,k=j+1:=⟨k-1,by simp at hk;omega⟩
  simp at hk
  obtain⟨hd2,hlt⟩:=drop_succ hd
  have ra:=cellsL_at hd
  have hxm:=List.mem_of_getElem? (at_of_drop hd)
  simp only[Tlv.encL,List.length_append] at hzz⊢
  have hx:=hg x hxm o (by omega)
  have e0:(i:Int)<(a.length:Int):=by omega
  have e1:(i:Int)+1≤9223372036854775807:=by omega
  have e2:(-9223372036854775808:Int)≤(i:Int)+1:=by omega
  have ih' :=fun st h=>ih (i+1) k (o++x.enc) st hd2 (by omega) hk (by simp;omega) h
  rw[iter_eq,hst,hev]
  rw[←List.append_assoc]
  obtain⟨c1,t,md,bn,b,kx,ks⟩:=x
  simp only[Tlv.cells] at ra hx
  generalize Tlv.enc (.mk c1 t md bn b kx ks)=s at*
  simp[loopAt,findLoop,Tryz.f87,htt,hlin,hreg,reg87,hcall,e0,e1,e2,ra,hx]
  simp at ih'
  exact ih' _ (by simp[hB])
end Go.Proofs.YthpmkmogoejjpaaGreatDoor
set_option linter.unusedSimpArgs false
set_option linter.unusedVariables false
namespace Go.Proofs.YthpmkmogoejjpaaGreatDoor
open Go Go.VM
variable {G : GE}
set_option maxRecDepth 100000
set_option maxHeartbeats 4000000
theorem or_class: ∀c t:Int,0≤c→c≤3→0≤t→t≤30→orI .i64 (c*64) t=64*c+t:=by
 have h: ∀(c:Fin 4) (t:Fin 31),orI .i64 ((c.val:Int)*64) (t.val:Int)=64*(c.val:Int)+(t.val:Int):=by decide+kernel
 intro c t h0 h1 h2 h3
 have:=h ⟨c.toNat,by omega⟩ ⟨t.toNat,by omega⟩
 simp only at this
 rwa [Int.toNat_of_nonneg h0,Int.toNat_of_nonneg h2] at this
theorem or_made: ∀c t:Int,0≤c→c≤3→0≤t→t≤30→orI .u8 (64*c+t) 32=64*c+t+32:=by
 have h: ∀(c:Fin 4) (t:Fin 31),orI .u8 (64*(c.val:Int)+(t.val:Int)) 32=64*(c.val:Int)+(t.val:Int)+32:=by decide+kernel
 intro c t h0 h1 h2 h3
 have:=h ⟨c.toNat,by omega⟩ ⟨t.toNat,by omega⟩
 simp only at this
 rwa [Int.toNat_of_nonneg h0,Int.toNat_of_nonneg h2] at this
theorem wrap8 (x:Int):IntKind.u8.wrap x=x % 256:=by
 simp[IntKind.wrap,IntKind.bits,IntKind.signed]
def beB (n:Int):Nat→List Int
 |0=>[]
 |q+1=>(n.fdiv (2^(8*q)) % 256)::beB n q
theorem loop_wB {C:Ctx} {F:Nat} (htt:C.tt=(envG G).tt) (hlin:C.lin=[88,86,76,72,58,49,42,0,4,39,45,53,65,73,1000086,84]) (hreg:C.reg=reg87) {c:Code}
  (hc:loopAt 16 Tryz.f87=some c) (B:Blk) (hB:oldB 1 (some B)=some B) (n:Int) (h0:0≤n) (hn:n≤1048576):
  ∀(q k:Nat) (o:List Int) (st:St),q≤3→q<k→o.length+q≤2097252→
   st.trim 1 [0,3,6,10]=⟨[(0,.d (.nums .u8 false o)),(3,.ptr 0 0),(6,.d (.int .i64 n)),(10,.d (.int .i64 ((q:Int)-1)))],[some B],[.t 0]⟩→
   iter (ev C F c) 1 [0,3,6,10] [0,3,4] k st=some (.exit 2,⟨[(0,.d (.nums .u8 false (o++beB n q))),(3,.ptr 0 0)],[some B],[.t 0]⟩):=by
 have hev: ∀st,ev C F c st=ev C F ((loopAt 16 Tryz.f87).getD .skip) st:=fun st=>by rw[hc];rfl
 intro q
 induction q with
 |zero=>
  intro k o st hq hk ho hst
  obtain⟨k,rfl⟩: ∃j,k=j+1:=⟨k-1,by omega⟩
  rw[iter_eq,hst,hev]
  simp[loopAt,findLoop,Tryz.f87,htt,hlin,hreg,reg87,beB]
 |succ q ih=>
  intro k o st hq hk ho hst
  obtain⟨k,rfl⟩: ∃j,k=j+1:=⟨k-1,by omega⟩
  have e0:((q+1:Nat):Int)-1=(q:Int):=by omega
  rw[e0] at hst
  have e1:(0:Int)≤(q:Int):=by omega
  have e2:(q:Int)-1≤9223372036854775807:=by omega
  have e3: -9223372036854775808≤(q:Int)-1:=by omega
  have e4:8*(q:Int)≤9223372036854775807:=by omega
  have e5: -9223372036854775808≤8*(q:Int):=by omega
  have e6:(0:Int)≤8*(q:Int):=by omega
  have e7:min (8*(q:Int)).toNat 64=8*q:=by omega
  have hd:0≤n.fdiv (2^(8*q))∧n.fdiv (2^(8*q))≤n:=by
   have hp:(0:Int)<2^(8*q):=Int.pow_pos (by omega)
   rw[Int.fdiv_eq_ediv_of_nonneg _ (by omega)]
   exact⟨Int.ediv_nonneg h0 (by omega),Int.ediv_le_self _ h0⟩
  have e8:n.fdiv (2^(8*q))≤9223372036854775807:=by omega
  have e9: -9223372036854775808≤n.fdiv (2^(8*q)):=by omega
  have er:o.length≤140737488355327:=by omega
  have ih' :=fun st h=>ih k (o++[n.fdiv (2^(8*q)) % 256]) st (by omega) (by omega) (by simp;omega) h
  rw[iter_eq,hst,hev]
  have el:o++beB n (q+1)=o++[n.fdiv (2^(8*q)) % 256]++beB n q:=by simp[beB]
  rw[el]
  simp[loopAt,findLoop,Tryz.f87,htt,hlin,hreg,reg87,e1,e2,e3,e4,e5,e6,e7,e8,e9,er,wrap8]
  simp at ih'
  exact ih' _ (by simp[hB])
end Go.Proofs.YthpmkmogoejjpaaGreatDoor
set_option linter.unusedSimpArgs false
set_option linter.unusedVariables false
namespace Go.Proofs.YthpmkmogoejjpaaGreatDoor
open Go Go.VM
variable {G : GE}
set_option maxRecDepth 100000
set_option maxHeartbeats 4000000
theorem sizeB_be (N:Nat) (h:N≤1048576) (h1:128≤N): ∃q:Nat,1≤q∧q≤3∧headN N=q+2∧sizeB N=((128+q:Nat):Int)::beB N q:=by
 have hp: ∀k:Nat,(N:Int).fdiv (2^k)=(N:Int)/2^k:=fun k=>Int.fdiv_eq_ediv_of_nonneg _ (Int.le_of_lt (Int.pow_pos (by omega)))
 by_cases h2:N<256
 ·have a1:headN N=3:=by unfold headN;rw[if_neg (by omega),if_pos (by omega)]
  have a2:sizeB N=[129,(N:Int)]:=by unfold sizeB;rw[if_neg (by omega),if_pos h2]
  refine⟨1,by omega,by omega,by rw[a1];rfl, ?_⟩
  rw[a2]
  simp only[beB,hp]
  have e1:(N:Int) % 256=N:=by omega
  simp[e1]
 ·by_cases h3:N<65536
  ·have a1:headN N=4:=by unfold headN;rw[if_neg (by omega),if_neg (by omega),if_pos (by omega)]
   have a2:sizeB N=[130,(N:Int)/256,(N:Int) % 256]:=by unfold sizeB;rw[if_neg (by omega),if_neg h2,if_pos h3]
   refine⟨2,by omega,by omega,by rw[a1];rfl, ?_⟩
   rw[a2]
   simp only[beB,hp]
   have e1:(N:Int)/256 % 256=(N:Int)/256:=by omega
   simp[e1]
  ·have a1:headN N=5:=by unfold headN;rw[if_neg (by omega),if_neg (by omega),if_neg (by omega)]
   have a2:sizeB N=[131,(N:Int)/65536,(N:Int)/256 % 256,(N:Int) % 256]:=by unfold sizeB;rw[if_neg (by omega),if_neg h2,if_neg h3]
   refine⟨3,by omega,by omega,by rw[a1];rfl, ?_⟩
   rw[a2]
   simp only[beB,hp]
   have e1:(N:Int)/65536 % 256=(N:Int)/65536:=by omega
   simp[e1]
theorem beB_len (z:Int): ∀q:Nat,(beB z q).length=q
 |0=>rfl
 |q+1=>by simp[beB,beB_len z q]
theorem fineL_mem' {x:Tlv}: ∀ {l:List Tlv},Tlv.fineL l=true→x∈l→x.fine=true
 |y::l,h,hx=>by
  simp only[Tlv.fineL,Bool.and_eq_true] at h
  rcases List.mem_cons.1 hx with rfl|hx
  ·exact h.1
  ·exact fineL_mem' h.2 hx
theorem enc_mem {x:Tlv}: ∀ {l:List Tlv},x∈l→x.enc.length≤(Tlv.encL l).length
 |y::l,hx=>by
  simp only[Tlv.encL,List.length_append]
  rcases List.mem_cons.1 hx with rfl|hx
  ·omega
  ·have:=enc_mem hx;omega
theorem t_write (F:Nat) (hF:F≤140737488355328) (B:Nat) (hB:B<F) (hF2:10<F): ∀(d n:Nat) (x:Tlv) (o:List Int) (nl:Bool),d≤1000000→x.depth≤d→x.width B→x.fine=true→x.enc.length≤1048576→o.length+x.enc.length≤2097152→
  callP (envG G) F (n+3*d) 87 [.d (.nums .u8 nl o),.d (.agg x.cells)] [] [.t 0]=some ⟨[.d (.nums .u8 false (o++x.enc))],[0],[],[]⟩:=by
 intro d
 induction d with
 |zero=>intro n x o nl _ hd;cases x;simp[Tlv.depth] at hd
 |succ d ih=>
  intro n x o nl hd0 hd hw hfi hen hol
  obtain⟨c,t,m,bn,b,kn,ks⟩:=x
  simp only[Tlv.depth] at hd
  simp only[Tlv.width] at hw
  have hkl:ks.length≤B:=hw.2.1
  have hbl:b.length≤B:=hw.1
  simp only[Tlv.fine,Bool.and_eq_true,decide_eq_true_eq] at hfi
  obtain⟨⟨c0,c3,t0,t30,_,_⟩,hfl⟩:=hfi
  simp only[Tlv.enc,headB,List.length_append,List.length_cons] at hen hol
  simp only[Tlv.enc,headB,Tlv.cells]
  rw[show n+3*(d+1)=n+3*d+2+1 by omega,callP_run (fn:=Tryz.f87) rfl rfl rfl (by simp[Tryz.ntmps87])]
  generalize hC:(envG G).ctx 87 (callN (envG G) F (n+3*d+2)) (callP (envG G) F (n+3*d+2))=C
  have htt:C.tt=(envG G).tt:=by rw[←hC];rfl
  have hlin:C.lin=[88,86,76,72,58,49,42,0,4,39,45,53,65,73,1000086,84]:=by rw[←hC];rfl
  have hreg:C.reg=reg87:=by rw[←hC];rfl
  have hcall:C.call=callN (envG G) F (n+3*d+2):=by rw[←hC];rfl
  have hcallP:C.callP=callP (envG G) F (n+3*d+2):=by rw[←hC];rfl
  have hl1:C.live 6=[0,3,5,6,28,29,30]:=by rw[←hC];rfl
  have hl2:C.live 100006=[0,3,4,5,6]:=by rw[←hC];rfl
  have hl3:C.live 16=[0,3,6,10]:=by rw[←hC];rfl
  have hl4:C.live 100016=[0,3,4]:=by rw[←hC];rfl
  have hl5:C.live 21=[0,78,79,80]:=by rw[←hC];rfl
  have hl6:C.live 100021=[0,4]:=by rw[←hC];rfl
  have hLA:=fun o p5 Bk hBk st h=>loop_wA (G:=G) htt hlin hreg hcall rfl o p5 Bk hBk kn ks (by omega)
   (fun x hx=>by
    have:=t_size (G:=G) F hF B hB d (n+d+2) x (by omega) (by have:=depthL_mem hx;omega) (widthL_mem hw.2.2 hx)
    rwa [show n+d+2+2*d=n+3*d+2 by omega] at this)
   (fun x hx=>(size_enc x).1 (by have:=enc_mem hx;omega)) ks 0 F b.length st rfl (by omega) (by omega) (by omega) (by omega) h
  have hLC:=fun Bk hBk o ho st h=>loop_wC (G:=G) htt hlin hreg hcallP rfl Bk hBk kn ks (by omega)
   (fun x hx o ho=>by
    have:=ih (n+2) x o false (by omega) (by have:=depthL_mem hx;omega) (widthL_mem hw.2.2 hx) (fineL_mem' hfl hx) (by have:=enc_mem hx;omega) ho
    rwa [show n+2+3*d=n+3*d+2 by omega] at this)
   ks 0 F o st rfl (by omega) (by omega) ho h
  have hsz:=sizeB_len (b.length+(Tlv.encL ks).length) (by omega)
  have hhd:=headN_le ((b.length+(Tlv.encL ks).length:Nat):Int)
  have g1:=or_class c t c0 c3 t0 t30
  have g2:=or_made c t c0 c3 t0 t30
  have g3:IntKind.u8.wrap (64*c+t)=64*c+t:=by rw[wrap8];omega
  have g4:c*64≤9223372036854775807:=by omega
  have g5: -9223372036854775808≤c*64:=by omega
  have FB: ∀p5,oldB 1 (some (.cells false [.d (.int .i64 c),.d (.int .i64 t),.d (.bool m),.d p5,.d (.sl 5 kn (Tlv.cellsL ks))]))=some (.cells false [.d (.int .i64 c),.d (.int .i64 t),.d (.bool m),.d p5,.d (.sl 5 kn (Tlv.cellsL ks))]):=fun _=>rfl
  cases m
  case false=>
   simp[htt,hlin,hreg,reg87,hcall,ev_loop,hl1,hl2,hl3,hl4,hl5,hl6,cellsL_len,g1,g3,g4,g5]
   rw[hLA (.nums .u8 nl o) (.int .u8 (64*c+t)) _ (FB (.nums .u8 bn b)) _ (by simp)]
   have r1:o.length≤140737488355327:=by omega
   have r2:o.length≤140737488355326:=by omega
   have r6:o.length+2+b.length≤140737488355328:=by omega
   have r3:o.length≤140737488355325:=by omega
   have r4:o.length≤140737488355324:=by omega
   have r5:o.length≤140737488355323:=by omega
   by_cases hN:b.length+(Tlv.encL ks).length<128
   ·have n1:((b.length:Int)+((Tlv.encL ks).length:Int))<128:=by omega
    have n2:IntKind.u8.wrap ((b.length:Int)+((Tlv.encL ks).length:Int))=(b.length:Int)+((Tlv.encL ks).length:Int):=by rw[wrap8];omega
    simp[htt,hlin,hreg,reg87,hcall,ev_loop,hl1,hl2,hl3,hl4,hl5,hl6,cellsL_len,g1,g3,g4,g5,r1,r2,r3,r4,r5,r6,n1,n2]
    rw[hLC _ (FB (.nums .u8 bn b)) (o++(64*c+t)::((b.length:Int)+((Tlv.encL ks).length:Int))::b) (by simp;omega) _ (by simp)]
    have es:sizeB (b.length+(Tlv.encL ks).length)=[(b.length:Int)+((Tlv.encL ks).length:Int)]:=by unfold sizeB;rw[if_pos hN];simp
    simp[htt,hlin,hreg,reg87,hcall,es]
   ·obtain⟨q,q1,q3,qh,qs⟩:=sizeB_be (b.length+(Tlv.encL ks).length) (by omega) (by omega)
    have n1: ¬(((b.length:Int)+((Tlv.encL ks).length:Int))<128):=by omega
    have qh' :headN ((b.length:Int)+((Tlv.encL ks).length:Int))=q+2:=by rw[←qh];congr 1
    have hh:=fun k=>t_head (G:=G) F (n+3*d+1) k
    have n5:IntKind.u8.wrap (128+(q:Int))=128+q:=by rw[wrap8];omega
    have n6:(q:Int)≤9223372036854775807:=by omega
    have n7: -9223372036854775808≤(q:Int):=by omega
    have n8:128+(q:Int)≤9223372036854775807:=by omega
    have n9: -9223372036854775808≤128+(q:Int):=by omega
    have n10:(q:Int)-1≤9223372036854775807:=by omega
    have n11: -9223372036854775808≤(q:Int)-1:=by omega
    have hLB:=fun Bk hBk o ho st h=>loop_wB (G:=G) (F:=F) htt hlin hreg rfl Bk hBk ((b.length:Int)+((Tlv.encL ks).length:Int)) (by omega) (by omega) q F o st q3 (by omega) ho h
    simp[htt,hlin,hreg,reg87,hcall,ev_loop,hl1,hl2,hl3,hl4,hl5,hl6,cellsL_len,g1,g3,g4,g5,r1,r2,r3,r4,r5,n1,hh,qh',n5,n6,n7,n8,n9,n10,n11]
    rw[hLB _ (FB (.nums .u8 bn b)) (o++[64*c+t,128+(q:Int)]) (by simp;omega) _ (by simp)]
    have hbl2:=beB_len ((b.length:Int)+((Tlv.encL ks).length:Int)) q
    have hql:(sizeB (b.length+(Tlv.encL ks).length)).length=q+1:=by omega
    have r7:o.length+(q+1+1)+b.length≤140737488355328:=by omega
    simp[htt,hlin,hreg,reg87,hcall,ev_loop,hl1,hl2,hl3,hl4,hl5,hl6,cellsL_len,hbl2,r7]
    rw[hLC _ (FB (.nums .u8 bn b)) (o++(64*c+t)::(128+(q:Int))::(beB ((b.length:Int)+((Tlv.encL ks).length:Int)) q++b)) (by simp[hbl2];omega) _ (by simp)]
    have qs' :sizeB (b.length+(Tlv.encL ks).length)=(128+(q:Int))::beB ((b.length:Int)+((Tlv.encL ks).length:Int)) q:=by
     rw[qs]
     have e1:((128+q:Nat):Int)=128+(q:Int):=by omega
     have e2:((b.length+(Tlv.encL ks).length:Nat):Int)=(b.length:Int)+((Tlv.encL ks).length:Int):=by omega
     rw[e1,e2]
    simp[htt,hlin,hreg,reg87,hcall,qs']
  case true=>
   simp[htt,hlin,hreg,reg87,hcall,ev_loop,hl1,hl2,hl3,hl4,hl5,hl6,cellsL_len,g1,g2,g3,g4,g5]
   rw[hLA (.nums .u8 nl o) (.int .u8 (64*c+t+32)) _ (FB (.nums .u8 bn b)) _ (by simp)]
   have r1:o.length≤140737488355327:=by omega
   have r2:o.length≤140737488355326:=by omega
   have r6:o.length+2+b.length≤140737488355328:=by omega
   have r3:o.length≤140737488355325:=by omega
   have r4:o.length≤140737488355324:=by omega
   have r5:o.length≤140737488355323:=by omega
   by_cases hN:b.length+(Tlv.encL ks).length<128
   ·have n1:((b.length:Int)+((Tlv.encL ks).length:Int))<128:=by omega
    have n2:IntKind.u8.wrap ((b.length:Int)+((Tlv.encL ks).length:Int))=(b.length:Int)+((Tlv.encL ks).length:Int):=by rw[wrap8];omega
    simp[htt,hlin,hreg,reg87,hcall,ev_loop,hl1,hl2,hl3,hl4,hl5,hl6,cellsL_len,g1,g2,g3,g4,g5,r1,r2,r3,r4,r5,r6,n1,n2]
    rw[hLC _ (FB (.nums .u8 bn b)) (o++(64*c+t+32)::((b.length:Int)+((Tlv.encL ks).length:Int))::b) (by simp;omega) _ (by simp)]
    have es:sizeB (b.length+(Tlv.encL ks).length)=[(b.length:Int)+((Tlv.encL ks).length:Int)]:=by unfold sizeB;rw[if_pos hN];simp
    simp[htt,hlin,hreg,reg87,hcall,es]
   ·obtain⟨q,q1,q3,qh,qs⟩:=sizeB_be (b.length+(Tlv.encL ks).length) (by omega) (by omega)
    have n1: ¬(((b.length:Int)+((Tlv.encL ks).length:Int))<128):=by omega
    have qh' :headN ((b.length:Int)+((Tlv.encL ks).length:Int))=q+2:=by rw[←qh];congr 1
    have hh:=fun k=>t_head (G:=G) F (n+3*d+1) k
    have n5:IntKind.u8.wrap (128+(q:Int))=128+q:=by rw[wrap8];omega
    have n6:(q:Int)≤9223372036854775807:=by omega
    have n7: -9223372036854775808≤(q:Int):=by omega
    have n8:128+(q:Int)≤9223372036854775807:=by omega
    have n9: -9223372036854775808≤128+(q:Int):=by omega
    have n10:(q:Int)-1≤9223372036854775807:=by omega
    have n11: -9223372036854775808≤(q:Int)-1:=by omega
    have hLB:=fun Bk hBk o ho st h=>loop_wB (G:=G) (F:=F) htt hlin hreg rfl Bk hBk ((b.length:Int)+((Tlv.encL ks).length:Int)) (by omega) (by omega) q F o st q3 (by omega) ho h
    simp[htt,hlin,hreg,reg87,hcall,ev_loop,hl1,hl2,hl3,hl4,hl5,hl6,cellsL_len,g1,g2,g3,g4,g5,r1,r2,r3,r4,r5,n1,hh,qh',n5,n6,n7,n8,n9,n10,n11]
    rw[hLB _ (FB (.nums .u8 bn b)) (o++[64*c+t+32,128+(q:Int)]) (by simp;omega) _ (by simp)]
    have hbl2:=beB_len ((b.length:Int)+((Tlv.encL ks).length:Int)) q
    have hql:(sizeB (b.length+(Tlv.encL ks).length)).length=q+1:=by omega
    have r7:o.length+(q+1+1)+b.length≤140737488355328:=by omega
    simp[htt,hlin,hreg,reg87,hcall,ev_loop,hl1,hl2,hl3,hl4,hl5,hl6,cellsL_len,hbl2,r7]
    rw[hLC _ (FB (.nums .u8 bn b)) (o++(64*c+t+32)::(128+(q:Int))::(beB ((b.length:Int)+((Tlv.encL ks).length:Int)) q++b)) (by simp[hbl2];omega) _ (by simp)]
    have qs' :sizeB (b.length+(Tlv.encL ks).length)=(128+(q:Int))::beB ((b.length:Int)+((Tlv.encL ks).length:Int)) q:=by
     rw[qs]
     have e1:((128+q:Nat):Int)=128+(q:Int):=by omega
     have e2:((b.length+(Tlv.encL ks).length:Nat):Int)=(b.length:Int)+((Tlv.encL ks).length:Int):=by omega
     rw[e1,e2]
    simp[htt,hlin,hreg,reg87,hcall,qs']
end Go.Proofs.YthpmkmogoejjpaaGreatDoor
set_option linter.unusedSimpArgs false
set_option linter.unusedVariables false
namespace Go.Proofs.YthpmkmogoejjpaaGreatDoor
open Go Go.VM
variable {G : GE}
set_option maxRecDepth 100000
set_option maxHeartbeats 4000000
def err (n:Int):D:= .ifc 39 (.int .i64 n)
def badW (x:Tlv):Int:=if x.fine=false then 1 else if 16<x.depth then 9 else if 1048576<x.enc.length then 2 else 0
def errD (n:Int):D:=if n=0 then .nilifc else err n
theorem t_Size (F:Nat) (hF:F≤140737488355328) (B:Nat) (hB:B<F) (d n:Nat) (x:Tlv) (hd0:d≤1000000) (hd:x.depth≤d) (hw:x.width B):
  callN (envG G) F (n+4*d+1) 86 [.d (.agg x.cells)]=some ⟨[.d (.int .i64 (if badW x=0 then x.enc.length else 0)),.d (errD (badW x))],[]⟩:=by
 have k1:=t_fine (G:=G) F hF B hB d n x hd hw
 have k2:=t_deep (G:=G) F hF B hB d n x 16 hd hw (by omega) (by omega)
 have k3:=t_size (G:=G) F hF B hB d (n+2*d) x hd0 hd hw
 rw[show n+2*d+2*d=n+4*d by omega] at k3
 have hse:=size_enc x
 unfold badW errD err
 obtain⟨c,t,m,bn,b,kn,ks⟩:=x
 simp only[Tlv.cells] at k1 k2 k3⊢
 generalize hx:Tlv.mk c t m bn b kn ks=x at*
 rw[callN_run (fn:=Tryz.f86) rfl rfl rfl (by simp[Tryz.ntmps86])]
 generalize hC:(envG G).ctx 86 (callN (envG G) F (n+4*d)) (callP (envG G) F (n+4*d))=C
 have htt:C.tt=(envG G).tt:=by rw[←hC];rfl
 have hlin:C.lin=[]:=by rw[←hC];rfl
 have hreg:C.reg=reg86:=by rw[←hC];rfl
 have hcall:C.call=callN (envG G) F (n+4*d):=by rw[←hC];rfl
 cases hf:x.fine with
 |false=>
  rw[hf] at k1
  simp[htt,hlin,hreg,reg86,hcall,k1,k2,k3]
 |true=>
  rw[hf] at k1
  by_cases h16:16<x.depth
  ·have e1:deepB x 16=true:=by unfold deepB;exact decide_eq_true (by omega)
   rw[e1] at k2
   simp[htt,hlin,hreg,reg86,hcall,k1,k2,k3,h16]
  ·have e1:deepB x 16=false:=by unfold deepB;exact decide_eq_false (by omega)
   rw[e1] at k2
   by_cases hl:1048576<x.enc.length
   ·have e2:=hse.2 hl
    simp[htt,hlin,hreg,reg86,hcall,k1,k2,k3,h16,hl,e2]
   ·have e2:=hse.1 (by omega)
    rw[e2] at k3
    have e3: ¬((1048576:Int)<x.enc.length):=by omega
    simp[htt,hlin,hreg,reg86,hcall,k1,k2,k3,h16,hl,e3]
theorem t_Write (F:Nat) (hF:F≤140737488355328) (B:Nat) (hB:B<F) (hF2:10<F) (d n:Nat) (x:Tlv) (hd0:d≤1000000) (hd:x.depth≤d) (hw:x.width B):
  callN (envG G) F (n+4*d+2) 40 [.d (.agg x.cells)]=some ⟨[.d (if badW x=0 then .nums .u8 false x.enc else .nums .u8 true []),.d (errD (badW x))],[0]⟩:=by
 have k1:=t_Size (G:=G) F hF B hB d n x hd0 hd hw
 have k2:badW x=0→_:=fun h=>t_write (G:=G) F hF B hB hF2 d (n+d+1) x [] true hd0 hd hw (by
  cases hf:x.fine with
  |true=>rfl
  |false=>simp[badW,hf] at h) (by
  unfold badW at h
  split at h
  ·cases h
  ·split at h
   ·cases h
   ·split at h
    ·cases h
    ·omega) (by
  unfold badW at h
  split at h
  ·cases h
  ·split at h
   ·cases h
   ·split at h
    ·cases h
    ·simp;omega)
 rw[show n+d+1+3*d=n+4*d+1 by omega] at k2
 unfold errD err at*
 obtain⟨c,t,m,bn,b,kn,ks⟩:=x
 simp only[Tlv.cells] at k1 k2⊢
 generalize hx:Tlv.mk c t m bn b kn ks=x at*
 rw[callN_run (fn:=Tryz.f40) rfl rfl rfl (by simp[Tryz.ntmps40])]
 generalize hC:(envG G).ctx 40 (callN (envG G) F (n+4*d+1)) (callP (envG G) F (n+4*d+1))=C
 have htt:C.tt=(envG G).tt:=by rw[←hC];rfl
 have hlin:C.lin=[10,5,15,13,3,2,1000015]:=by rw[←hC];rfl
 have hreg:C.reg=reg40:=by rw[←hC];rfl
 have hcall:C.call=callN (envG G) F (n+4*d+1):=by rw[←hC];rfl
 have hcallP:C.callP=callP (envG G) F (n+4*d+1):=by rw[←hC];rfl
 by_cases h0:badW x=0
 ·have k2' :=k2 h0
  rw[h0] at k1
  simp[htt,hlin,hreg,reg40,hcall,hcallP,k1,k2',h0]
 ·simp[h0] at k1
  simp[htt,hlin,hreg,reg40,hcall,hcallP,k1,h0]
end Go.Proofs.YthpmkmogoejjpaaGreatDoor
set_option linter.unusedSimpArgs false
set_option linter.unusedVariables false
namespace Go.Proofs.YthpmkmogoejjpaaGreatDoor
open Go Go.VM
variable {G : GE}
set_option maxRecDepth 100000
set_option maxHeartbeats 4000000
def spotD (c p:Int):D:= .ifc 125 (.fp [.int .i64 p,err c])
theorem t_spot (F n:Nat) (c p:Int):callN (envG G) F (n+1) 91 [.d (.int .i64 p),.d (err c)]=some ⟨[.d (spotD c p)],[]⟩:=by
 unfold spotD err
 rw[callN_run (fn:=Tryz.f91) rfl rfl rfl (by simp[Tryz.ntmps91])]
 generalize hC:(envG G).ctx 91 (callN (envG G) F (n)) (callP (envG G) F (n))=C
 have htt:C.tt=(envG G).tt:=by rw[←hC];rfl
 have hlin:C.lin=[]:=by rw[←hC];rfl
 have hreg:C.reg=reg91:=by rw[←hC];rfl
 have hcall:C.call=callN (envG G) F (n):=by rw[←hC];rfl
 have hcallP:C.callP=callP (envG G) F (n):=by rw[←hC];rfl
 simp[htt,hlin,hreg,reg91,hcall,hcallP]
theorem byteAt_get {b:List Int} {i:Nat} (h:i<b.length):b[i]? =some (byteAt b i):=by
 simp[byteAt,h]
theorem loop_len {m:Nat} {C:Ctx} {F:Nat} (hC:(envG G).ctx 156 (callN (envG G) F (m)) (callP (envG G) F (m))=C) {c:Code} (hc:loopAt 12 Tryz.f156=some c) (b us:List Int) (fr q:Nat) (hb: ∀c∈b,0≤c∧c<256) (hq:q≤3) (hul:us.length=q) (hu: ∀j,j<q→us[j]? =some (byteAt b (fr+j)))
  (nl:Bool) (p1 p2 p10 p11:D) (B:Blk) (hB:oldB 1 (some B)=some B):
  ∀(u j k:Nat) (st:St),j+u=q→u<k→
   st.trim 1 [1,2,3,9,10,11,57,58,59]=⟨[(1,.d p1),(2,.d p2),(3,.ptr 0 0),(9,.d (.int .i64 (beN b fr j))),(10,.d p10),(11,.d p11),(57,.d (.nums .u8 nl us)),(58,.d (.int .i64 q)),(59,.d (.int .i64 j))],[some B],[]⟩→
   iter (ev C F c) 1 [1,2,3,9,10,11,57,58,59] [1,2,3,6,7,8,9,10,11] k st=some (.exit 1,⟨[(1,.d p1),(2,.d p2),(3,.ptr 0 0),(9,.d (.int .i64 (beN b fr q))),(10,.d p10),(11,.d p11)],[some B],[]⟩):=by
 have htt:C.tt=(envG G).tt:=by rw[←hC];rfl
 have hlin:C.lin=[]:=by rw[←hC];rfl
 have hreg:C.reg=reg156:=by rw[←hC];rfl
 have hcall:C.call=callN (envG G) F (m):=by rw[←hC];rfl
 have hcallP:C.callP=callP (envG G) F (m):=by rw[←hC];rfl
 have hlv_12:C.live 12=[1,2,3,9,10,11,57,58,59]:=by rw[←hC];rfl
 have hlv_100012:C.live 100012=[1,2,3,6,7,8,9,10,11]:=by rw[←hC];rfl
 have hev: ∀st,ev C F c st=ev C F ((loopAt 12 Tryz.f156).getD .skip) st:=fun st=>by rw[hc];rfl
 intro u
 induction u with
 |zero=>
  intro j k st hj hk hst
  obtain⟨k,rfl⟩: ∃j,k=j+1:=⟨k-1,by omega⟩
  have e0: ¬((j:Int)<(q:Int)):=by omega
  have hjq:j=q:=by omega
  subst hjq
  rw[iter_eq,hst,hev]
  simp[loopAt,findLoop,Tryz.f156,htt,hlin,hreg,reg156,hcall,hcallP,hlv_12,hlv_100012,e0]
 |succ u ih=>
  intro j k st hj hk hst
  obtain⟨k,rfl⟩: ∃j,k=j+1:=⟨k-1,by omega⟩
  have e0:(j:Int)<(q:Int):=by omega
  have ra:=hu j (by omega)
  have h1:=beN_ok hb fr j
  have h2:=byteAt_ok hb (fr+j)
  have hp:(256:Int)^j≤65536:=by
   have:j=0∨j=1∨j=2:=by omega
   rcases this with rfl|rfl|rfl<;>decide
  have ho:=or_byte (v:=beN b fr j) (x:=byteAt b (fr+j)) h1.1 (by omega) h2.1 h2.2
  have ih' :=fun st h=>ih (j+1) k st (by omega) (by omega) h
  simp only[beN] at ih'
  rw[show 256*beN b fr j+byteAt b (fr+j)=beN b fr j*256+byteAt b (fr+j) by omega] at ih'
  have e1:(j:Int)+1≤9223372036854775807:=by omega
  have e2:(-9223372036854775808:Int)≤(j:Int)+1:=by omega
  have e3:beN b fr j*256≤9223372036854775807:=by omega
  have e4:(-9223372036854775808:Int)≤beN b fr j*256:=by omega
  have e5:byteAt b (fr+j)≤9223372036854775807:=by omega
  have e6:(-9223372036854775808:Int)≤byteAt b (fr+j):=by omega
  rw[iter_eq,hst,hev]
  generalize beN b fr j=v at*
  generalize byteAt b (fr+j)=x at*
  simp[loopAt,findLoop,Tryz.f156,htt,hlin,hreg,reg156,hcall,hcallP,hlv_12,hlv_100012,e0,e1,e2,e3,e4,e5,e6,ra,ho]
  simp at ih'
  exact ih' _ (by simp[hB])
end Go.Proofs.YthpmkmogoejjpaaGreatDoor
