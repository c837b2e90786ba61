/- What was written is read as it was: no program in sight. -/
import Derived.Test.YthpmkmogoejjpaaGreatDoorSC
import Derived.Test.YthpmkmogoejjpaaGreatDoorSB
namespace Go.Proofs.YthpmkmogoejjpaaGreatDoor
open Go Go.VM
set_option linter.unusedSimpArgs false
set_option linter.unusedVariables false
mutual
def Tlv.norm:Tlv→Tlv
 | .mk c t m _ b _ ks=> .mk c t m m b ks.isEmpty (Tlv.normL ks)
def Tlv.normL:List Tlv→List Tlv
 |[]=>[]
 |x::l=>x.norm::Tlv.normL l
end
theorem byteAt_of_drop {b l:List Int} {i:Nat} (h:b.drop i=l) (j:Nat):byteAt b (i+j)=(l[j]?).getD 0:=by
 subst h
 simp[byteAt,List.getElem?_drop]
theorem drop_of_drop {b l r:List Int} {i:Nat} (h:b.drop i=l++r):b.drop (i+l.length)=r:=by
 rw[←List.drop_drop,h];simp
theorem lenB_enc {b r:List Int} {i stop v:Nat} (hv:v<16777216) (h:b.drop i=sizeB v++r) (hs:i+(sizeB v).length≤stop):
  lenB b i stop= .ok (v,i+(sizeB v).length):=by
 have h0:=byteAt_of_drop h 0
 have h1:=byteAt_of_drop h 1
 have h2:=byteAt_of_drop h 2
 have h3:=byteAt_of_drop h 3
 unfold sizeB at h0 h1 h2 h3 hs⊢
 unfold lenB
 split at hs
 ·rename_i c1
  simp only[if_pos c1,List.length_cons,List.length_nil] at h0 hs⊢
  simp at h0
  rw[if_neg (by omega),if_pos (by omega),h0]
  simp
 ·rename_i c1
  rw[if_neg c1] at h0 h1 h2 h3
  split at hs
  ·rename_i c2
   rw[if_pos c2] at h0 h1 h2 h3
   simp only[if_neg c1,if_pos c2,List.length_cons,List.length_nil] at hs⊢
   simp at h0 h1
   rw[if_neg (by omega),if_neg (by omega),if_neg (by omega),h0]
   simp[beN,h1]
   rw[if_neg (by omega),if_neg (by omega)]
  ·rename_i c2
   rw[if_neg c2] at h0 h1 h2 h3
   split at hs
   ·rename_i c3
    rw[if_pos c3] at h0 h1 h2 h3
    simp only[if_neg c1,if_neg c2,if_pos c3,List.length_cons,List.length_nil] at hs⊢
    simp at h0 h1 h2
    rw[if_neg (by omega),if_neg (by omega),if_neg (by omega),h0]
    simp only[show ((130:Int)-128).toNat=2 from rfl,beN,Nat.add_zero]
    rw[if_neg (by omega),show i+1+1=i+2 by omega,h1,h2,if_neg (by omega)]
    congr 2
    omega
   ·rename_i c3
    rw[if_neg c3] at h0 h1 h2 h3
    simp only[if_neg c1,if_neg c2,if_neg c3,List.length_cons,List.length_nil] at hs⊢
    simp at h0 h1 h2 h3
    rw[if_neg (by omega),if_neg (by omega),if_neg (by omega),h0]
    simp only[show ((131:Int)-128).toNat=3 from rfl,beN,Nat.add_zero]
    rw[if_neg (by omega),show i+1+1=i+2 by omega,show i+1+2=i+3 by omega,h1,h2,h3,if_neg (by omega)]
    congr 2
    omega
theorem spanB_enc {b r:List Int} {i stop v:Nat} (hv:v<16777216) (h:b.drop i=sizeB v++r) (hs:i+(sizeB v).length+v≤stop):
  spanB b i stop= .ok (i+(sizeB v).length,i+(sizeB v).length+v):=by
 unfold spanB
 rw[lenB_enc hv h (by omega)]
 simp only
 rw[if_neg (by omega)]
theorem kidsB_enc {b:List Int} {g:Nat→Nat→Res (Tlv×Nat)} {to:Nat}:
  ∀(ks:List Tlv) (k fr:Nat) (r:List Int),(∀x∈ks,∀i r,b.drop i=x.enc++r→i+x.enc.length≤to→g i to= .ok (x.norm,i+x.enc.length))→(∀x∈ks,0<x.enc.length)→
   b.drop fr=Tlv.encL ks++r→fr+(Tlv.encL ks).length=to→to-fr≤k→kidsB g k fr to= .ok (Tlv.normL ks)
 |[],k,fr,r,hg,hp,h,ht,hk=>by
  simp[Tlv.encL] at ht
  subst ht
  cases k<;>simp[kidsB,Tlv.normL]
 |x::ks,k,fr,r,hg,hp,h,ht,hk=>by
  simp only[Tlv.encL,List.append_assoc,List.length_append] at h ht
  have hx:=hp x (by simp)
  obtain⟨k,rfl⟩: ∃j,k=j+1:=⟨k-1,by omega⟩
  simp only[kidsB]
  rw[if_pos (by omega),hg x (by simp) fr _ h (by omega)]
  simp only
  have hk2:=kidsB_enc (g:=g) (to:=to) ks k (fr+x.enc.length) r (fun y hy=>hg y (by simp[hy])) (fun y hy=>hp y (by simp[hy])) (drop_of_drop h) (by omega) (by omega)
  rw[hk2]
  rfl
theorem enc_two (x:Tlv):2≤x.enc.length:=by
 obtain⟨c,t,m,bn,b,kn,ks⟩:=x
 have:0<(sizeB (b++Tlv.encL ks).length).length:=by
  unfold sizeB;repeat' split
  all_goals simp
 simp only[Tlv.enc,headB,List.length_append,List.length_cons] at this⊢
 omega
theorem encL_mem {x:Tlv}: ∀ {l:List Tlv},x∈l→x.enc.length≤(Tlv.encL l).length
 |y::l,hx=>by
  simp only[Tlv.encL,List.length_append]
  rcases List.mem_cons.1 hx with rfl|hx
  ·omega
  ·have:=encL_mem hx;omega
theorem elemB_enc {b:List Int}: ∀(d i stop:Nat) (x:Tlv) (r:List Int),x.fine=true→x.depth≤d→x.enc.length<16777216→
  b.drop i=x.enc++r→i+x.enc.length≤stop→elemB b d i stop= .ok (x.norm,i+x.enc.length)
 |0,i,stop,x,r,hf,hd,hn,h,hs=>by cases x;simp[Tlv.depth] at hd
 |d+1,i,stop,x,r,hf,hd,hn,h,hs=>by
  obtain⟨c,t,m,bn,bd,kn,ks⟩:=x
  simp only[Tlv.fine,Bool.and_eq_true,decide_eq_true_eq] at hf
  obtain⟨⟨c0,c3,t0,t30,hmb,hmk⟩,hfl⟩:=hf
  simp only[Tlv.depth] at hd
  have h2:=enc_two (.mk c t m bn bd kn ks)
  have hb0:=byteAt_of_drop h 0
  simp only[Tlv.enc,headB,List.cons_append,List.append_assoc,List.length_append,List.length_cons] at h hn hs h2 hb0⊢
  simp at hb0
  have hd1:b.drop (i+1)=sizeB (bd.length+(Tlv.encL ks).length)++(bd++(Tlv.encL ks++r)):=by
   rw[←List.drop_drop,h];rfl
  have hsp:=spanB_enc (b:=b) (i:=i+1) (stop:=stop) (v:=bd.length+(Tlv.encL ks).length) (by omega) hd1 (by omega)
  have hd2:=drop_of_drop hd1
  unfold elemB
  rw[if_neg (by omega)]
  have f32:byteAt b i % 32=t:=by rw[hb0];cases m<;>simp<;>omega
  have f64:byteAt b i/64=c:=by rw[hb0];cases m<;>simp<;>omega
  rw[if_neg (by omega),hsp]
  simp only[f32,f64]
  generalize hfr:i+1+(sizeB (bd.length+(Tlv.encL ks).length)).length=fr at*
  cases m with
  |true=>
   have:bd=[]:=hmb rfl
   subst this
   simp only[List.length_nil,List.nil_append,Nat.zero_add] at*
   rw[if_pos (by rw[hb0];simp;omega)]
   rw[kidsB_enc ks _ _ r (fun x hx i r h hs=>elemB_enc d i _ x r (fineL_mem hfl hx) (by have:=depthL_mem hx;omega) (by have:=encL_mem hx;omega) h hs)
    (fun x hx=>by have:=enc_two x;omega) hd2 rfl (by omega)]
   simp only[Tlv.norm]
   have e1:(Tlv.normL ks).isEmpty=ks.isEmpty:=by cases ks<;>rfl
   rw[e1]
   congr 2
   omega
  |false=>
   have:ks=[]:=hmk rfl
   subst this
   simp only[Tlv.encL,List.length_nil,List.nil_append,Nat.add_zero] at*
   rw[if_neg (by rw[hb0];simp;omega),hd2]
   simp only[Tlv.norm,Tlv.normL,List.isEmpty_nil]
   rw[show fr+bd.length-fr=bd.length by omega,List.take_left]
   congr 2
   omega
mutual
theorem same_norm: ∀x:Tlv,x.norm.same x=true
 | .mk c t m bn b kn ks=>by
  simp only[Tlv.norm,Tlv.same,Bool.and_eq_true,decide_eq_true_eq]
  exact⟨by simp[normL_len ks],same_normL ks⟩
theorem same_normL: ∀l:List Tlv,Tlv.sameL (Tlv.normL l) l=true
 |[]=>rfl
 |x::l=>by simp only[Tlv.normL,Tlv.sameL,same_norm x,same_normL l,Bool.and_true]
theorem normL_len: ∀l:List Tlv,(Tlv.normL l).length=l.length
 |[]=>rfl
 |x::l=>by simp only[Tlv.normL,List.length_cons,normL_len l]
end
end Go.Proofs.YthpmkmogoejjpaaGreatDoor
set_option linter.unusedSimpArgs false
set_option linter.unusedVariables false
namespace Go.Proofs.YthpmkmogoejjpaaGreatDoor
open Go Go.VM
variable {G : GE}
set_option maxRecDepth 100000
set_option maxHeartbeats 4000000
def firstIx (p:Tlv→Bool):Nat→List Tlv→Int
 |_,[]=> -1
 |i,x::l=>if p x=true then i else firstIx p (i+1) l
theorem firstIx_any (p:Tlv→Bool): ∀(i:Nat) (l:List Tlv),decide (0≤firstIx p i l)=l.any p
 |i,[]=>by simp[firstIx]
 |i,x::l=>by
  simp only[firstIx,List.any_cons]
  by_cases h:p x=true
  ·simp[h]
  ·simp[h,firstIx_any p (i+1) l]
theorem loop_ix {C:Ctx} {F m g:Nat} (htt:C.tt=(envG G).tt) (hlin:C.lin=[]) (hreg:C.reg=reg197) (hcall:C.call=callN (envG G) F m) {c:Code}
  (hc:loopAt 2 Tryz.f197=some c) (nl:Bool) (a:List Tlv) (ha:a.length≤140737488355328) (p:Tlv→Bool)
  (hg: ∀x∈a,callN (envG G) F m g [.d (.agg x.cells)]=some ⟨[.d (.bool (p x))],[]⟩):
  ∀(us:List Tlv) (i k:Nat) (st:St),a.drop i=us→i≤a.length→us.length<k→
   st.trim 0 [0,1,7,8]=⟨[(0,.d (.sl 5 nl (Tlv.cellsL a))),(1,.fn g []),(7,.d (.int .i64 a.length)),(8,.d (.int .i64 i))],[],[]⟩→
   iter (ev C F c) 0 [0,1,7,8] [4] k st=if 0≤firstIx p i us then some (.ret,⟨[(4,.d (.int .i64 (firstIx p i us)))],[],[]⟩) else some (.exit 0,⟨[],[],[]⟩):=by
 have hev: ∀st,ev C F c st=ev C F ((loopAt 2 Tryz.f197).getD .skip) st:=fun st=>by rw[hc];rfl
 intro us
 induction us with
 |nil=>
  intro i k st hd hi hk hst
  obtain⟨k,rfl⟩: ∃j,k=j+1:=⟨k-1,by simp at hk;omega⟩
  have h0:=drop_nil hd
  have e0: ¬((i:Int)<(a.length:Int)):=by omega
  rw[iter_eq,hst,hev]
  simp[loopAt,findLoop,Tryz.f197,htt,hlin,hreg,reg197,e0,firstIx]
 |cons x us ih=>
  intro i k st hd hi hk hst
  obtain⟨k,rfl⟩: ∃j,k=j+1:=⟨k-1,by simp at hk;omega⟩
  simp at hk
  obtain⟨hd2,hlt⟩:=drop_succ hd
  have ra:=cellsL_at hd
  have hx:=hg x (List.mem_of_getElem? (at_of_drop hd))
  have l5:=cells_five x
  have e0:(i:Int)<(a.length:Int):=by omega
  have e1:(i:Int)+1≤9223372036854775807:=by omega
  have e3:(0:Int)≤(i:Int):=by omega
  have e2:(-9223372036854775808:Int)≤(i:Int)+1:=by omega
  have ih' :=fun st h=>ih (i+1) k st hd2 (by omega) hk h
  rw[iter_eq,hst,hev]
  obtain⟨c1,t,md,bn,b,kx,ks⟩:=x
  simp only[Tlv.cells] at ra hx
  cases hp:p (.mk c1 t md bn b kx ks) with
  |true=>
   rw[hp] at hx
   simp[loopAt,findLoop,Tryz.f197,htt,hlin,hreg,reg197,hcall,e0,e1,e2,e3,ra,hx,firstIx,hp]
  |false=>
   rw[hp] at hx
   simp[loopAt,findLoop,Tryz.f197,htt,hlin,hreg,reg197,hcall,e0,e1,e2,e3,ra,hx,firstIx,hp]
   exact ih' _ (by simp)
theorem t_ix (F m g:Nat) (nl:Bool) (a:List Tlv) (ha:a.length≤140737488355328) (hF:a.length<F) (p:Tlv→Bool)
  (hg: ∀x∈a,callN (envG G) F m g [.d (.agg x.cells)]=some ⟨[.d (.bool (p x))],[]⟩):
  callN (envG G) F (m+1) 197 [.d (.sl 5 nl (Tlv.cellsL a)),.fn g []]=some ⟨[.d (.int .i64 (firstIx p 0 a))],[]⟩:=by
 rw[callN_run (fn:=Tryz.f197) rfl rfl rfl (by simp[Tryz.ntmps197])]
 generalize hC:(envG G).ctx 197 (callN (envG G) F m) (callP (envG G) F m)=C
 have htt:C.tt=(envG G).tt:=by rw[←hC];rfl
 have hlin:C.lin=[]:=by rw[←hC];rfl
 have hreg:C.reg=reg197:=by rw[←hC];rfl
 have hcall:C.call=callN (envG G) F m:=by rw[←hC];rfl
 have hl1:C.live 2=[0,1,7,8]:=by rw[←hC];rfl
 have hl2:C.live 100002=[4]:=by rw[←hC];rfl
 have hL:=fun st h=>loop_ix (G:=G) htt hlin hreg hcall rfl nl a ha p hg a 0 F st rfl (by omega) hF h
 simp[htt,hlin,hreg,reg197,hcall,ev_loop,hl1,hl2,cellsL_len]
 rw[hL _ (by simp)]
 split
 ·rename_i h;simp[htt,hlin,hreg,reg197]
 ·rename_i h
  have:firstIx p 0 a= -1:=by
   have: ∀(l:List Tlv) (i:Nat),¬(0≤firstIx p i l)→firstIx p i l= -1:=by
    intro l
    induction l with
    |nil=>intro i _;rfl
    |cons x l ih=>
     intro i hi
     simp only[firstIx] at hi⊢
     split at hi
     ·omega
     ·rename_i hn;rw[if_neg hn];exact ih _ hi
   exact this a 0 h
  simp[htt,hlin,hreg,reg197,this]
theorem t_contains (F m g:Nat) (nl:Bool) (a:List Tlv) (ha:a.length≤140737488355328) (hF:a.length<F) (p:Tlv→Bool)
  (hg: ∀x∈a,callN (envG G) F m g [.d (.agg x.cells)]=some ⟨[.d (.bool (p x))],[]⟩):
  callN (envG G) F (m+2) 129 [.d (.sl 5 nl (Tlv.cellsL a)),.fn g []]=some ⟨[.d (.bool (a.any p))],[]⟩:=by
 rw[callN_run (fn:=Tryz.f129) rfl rfl rfl (by simp[Tryz.ntmps129])]
 generalize hC:(envG G).ctx 129 (callN (envG G) F (m+1)) (callP (envG G) F (m+1))=C
 have htt:C.tt=(envG G).tt:=by rw[←hC];rfl
 have hlin:C.lin=[]:=by rw[←hC];rfl
 have hreg:C.reg=reg129:=by rw[←hC];rfl
 have hcall:C.call=callN (envG G) F (m+1):=by rw[←hC];rfl
 have k1:=t_ix (G:=G) F m g nl a ha hF p hg
 rw[←firstIx_any p 0 a]
 simp[htt,hlin,hreg,reg129,hcall,k1]
end Go.Proofs.YthpmkmogoejjpaaGreatDoor
set_option linter.unusedSimpArgs false
set_option linter.unusedVariables false
namespace Go.Proofs.YthpmkmogoejjpaaGreatDoor
open Go Go.VM
variable {G : GE}
set_option maxRecDepth 100000
set_option maxHeartbeats 4000000
theorem fineL_any: ∀l:List Tlv,(!l.any fun k=> !k.fine)=Tlv.fineL l
 |[]=>rfl
 |x::l=>by simp only[List.any_cons,Tlv.fineL,Bool.not_or,Bool.not_not,fineL_any l]
theorem t_fine1 (F m:Nat) (x:Tlv) (r:Bool) (h:callN (envG G) F m 150 [.d (.agg x.cells)]=some ⟨[.d (.bool r)],[]⟩):
  callN (envG G) F (m+1) 213 [.d (.agg x.cells)]=some ⟨[.d (.bool (!r))],[]⟩:=by
 obtain⟨c,t,md,bn,b,kn,ks⟩:=x
 simp only[Tlv.cells] at h⊢
 rw[callN_run (fn:=Tryz.f213) rfl rfl rfl (by simp[Tryz.ntmps213])]
 generalize hC:(envG G).ctx 213 (callN (envG G) F m) (callP (envG G) F m)=C
 have htt:C.tt=(envG G).tt:=by rw[←hC];rfl
 have hlin:C.lin=[]:=by rw[←hC];rfl
 have hreg:C.reg=reg213:=by rw[←hC];rfl
 have hcall:C.call=callN (envG G) F m:=by rw[←hC];rfl
 simp[htt,hlin,hreg,reg213,hcall,h]
theorem t_fine (F:Nat) (hF:F≤140737488355328) (B:Nat) (hB:B<F): ∀(d n:Nat) (x:Tlv),x.depth≤d→x.width B→
  callN (envG G) F (n+4*d) 150 [.d (.agg x.cells)]=some ⟨[.d (.bool x.fine)],[]⟩:=by
 intro d
 induction d with
 |zero=>intro n x hd;cases x;simp[Tlv.depth] at hd
 |succ d ih=>
  intro n x hd hw
  obtain⟨c,t,m,bn,b,kn,ks⟩:=x
  simp only[Tlv.depth] at hd
  simp only[Tlv.width] at hw
  have k1:=t_contains (G:=G) F (n+4*d+1) 213 kn ks (by omega) (by omega) (fun k=> !k.fine) (fun x hx=>
   t_fine1 (G:=G) F (n+4*d) x x.fine (ih n x (by have:=depthL_mem hx;omega) (widthL_mem hw.2.2 hx)))
  simp only[Tlv.cells]
  rw[show n+4*(d+1)=n+4*d+3+1 by omega,callN_run (fn:=Tryz.f150) rfl rfl rfl (by simp[Tryz.ntmps150])]
  generalize hC:(envG G).ctx 150 (callN (envG G) F (n+4*d+3)) (callP (envG G) F (n+4*d+3))=C
  have htt:C.tt=(envG G).tt:=by rw[←hC];rfl
  have hlin:C.lin=[]:=by rw[←hC];rfl
  have hreg:C.reg=reg150:=by rw[←hC];rfl
  have hcall:C.call=callN (envG G) F (n+4*d+3):=by rw[←hC];rfl
  have hf:(Tlv.mk c t m bn b kn ks).fine=(decide (0≤c∧c≤3∧0≤t∧t≤30∧(m=true→b=[])∧(m=false→ks=[])) && (!ks.any fun k=> !k.fine)):=by rw[Tlv.fine,fineL_any]
  rw[hf]
  clear hf ih
  generalize (ks.any fun k=> !k.fine)=r at*
  simp[htt,hlin,hreg,reg150,hcall,k1,cellsL_len]
  repeat' (first
   |done
   |(refine condE_elim (fun hb=> ?_) (fun hb=> ?_)<;>(try simp only[Bool.not_eq_true',Bool.not_eq_false',Bool.not_eq_true,Bool.not_eq_false,decide_eq_true_eq,decide_eq_false_iff_not,Decidable.not_not] at hb)<;>(try simp[hb,htt,hlin,hreg,reg150,hcall,k1,cellsL_len])))
  all_goals (intros;first|omega|exact⟨by omega,by omega,by omega,by omega,List.length_eq_zero_iff.1 (by omega)⟩|(rename_i h;subst h;simp at*;done)|(rename_i h;subst h;simp_all;done)|trace_state)
end Go.Proofs.YthpmkmogoejjpaaGreatDoor
set_option linter.unusedSimpArgs false
set_option linter.unusedVariables false
namespace Go.Proofs.YthpmkmogoejjpaaGreatDoor
open Go Go.VM
variable {G : GE}
set_option maxRecDepth 100000
set_option maxHeartbeats 4000000
theorem loop_ixP {C:Ctx} {F m g:Nat} (B:Blk) (hB:refsB (some B)=[]) (hB2: ∀ρ,renB ρ (some B)=some (some B)) (hB3:oldB 1 (some B)=some B) (htt:C.tt=(envG G).tt) (hlin:C.lin=[]) (hreg:C.reg=reg197) (hcall:C.callP=callP (envG G) F m) {c:Code}
  (hc:loopAt 2 Tryz.f197=some c) (nl:Bool) (a:List Tlv) (ha:a.length≤140737488355328) (p:Tlv→Bool)
  (hg: ∀x∈a,callP (envG G) F m g [.d (.agg x.cells),.ptr 0 0] [some B] []=some ⟨[.d (.bool (p x))],[],[some B],[]⟩):
  ∀(us:List Tlv) (i k:Nat) (st:St),a.drop i=us→i≤a.length→us.length<k→
   st.trim 1 [0,1,7,8]=⟨[(0,.d (.sl 5 nl (Tlv.cellsL a))),(1,.fn g [.ptr 0 0]),(7,.d (.int .i64 a.length)),(8,.d (.int .i64 i))],[some B],[]⟩→
   iter (ev C F c) 1 [0,1,7,8] [4] k st=if 0≤firstIx p i us then some (.ret,⟨[(4,.d (.int .i64 (firstIx p i us)))],[some B],[]⟩) else some (.exit 0,⟨[],[some B],[]⟩):=by
 have hev: ∀st,ev C F c st=ev C F ((loopAt 2 Tryz.f197).getD .skip) st:=fun st=>by rw[hc];rfl
 intro us
 induction us with
 |nil=>
  intro i k st hd hi hk hst
  obtain⟨k,rfl⟩: ∃j,k=j+1:=⟨k-1,by simp at hk;omega⟩
  have h0:=drop_nil hd
  have e0: ¬((i:Int)<(a.length:Int)):=by omega
  rw[iter_eq,hst,hev]
  simp[loopAt,findLoop,Tryz.f197,htt,hlin,hreg,reg197,e0,firstIx]
 |cons x us ih=>
  intro i k st hd hi hk hst
  obtain⟨k,rfl⟩: ∃j,k=j+1:=⟨k-1,by simp at hk;omega⟩
  simp at hk
  obtain⟨hd2,hlt⟩:=drop_succ hd
  have ra:=cellsL_at hd
  have hx:=hg x (List.mem_of_getElem? (at_of_drop hd))
  have l5:=cells_five x
  have e0:(i:Int)<(a.length:Int):=by omega
  have e1:(i:Int)+1≤9223372036854775807:=by omega
  have e3:(0:Int)≤(i:Int):=by omega
  have e2:(-9223372036854775808:Int)≤(i:Int)+1:=by omega
  have ih' :=fun st h=>ih (i+1) k st hd2 (by omega) hk h
  rw[iter_eq,hst,hev]
  obtain⟨c1,t,md,bn,b,kx,ks⟩:=x
  simp only[Tlv.cells] at ra hx
  cases hp:p (.mk c1 t md bn b kx ks) with
  |true=>
   rw[hp] at hx
   simp[loopAt,findLoop,Tryz.f197,htt,hlin,hreg,reg197,hcall,hB,hB2,hB3,e0,e1,e2,e3,ra,hx,firstIx,hp]
  |false=>
   rw[hp] at hx
   simp[loopAt,findLoop,Tryz.f197,htt,hlin,hreg,reg197,hcall,hB,hB2,hB3,e0,e1,e2,e3,ra,hx,firstIx,hp]
   exact ih' _ (by simp[hB3])
theorem firstIx_neg (p:Tlv→Bool): ∀(l:List Tlv) (i:Nat),¬(0≤firstIx p i l)→firstIx p i l= -1
 |[],i,_=>rfl
 |x::l,i,hi=>by
  simp only[firstIx] at hi⊢
  split at hi
  ·omega
  ·rename_i hn;rw[if_neg hn];exact firstIx_neg p l _ hi
theorem t_ixP (F m g:Nat) (k0:IntKind) (z:Int) (nl:Bool) (a:List Tlv) (ha:a.length≤140737488355328) (hF:a.length<F) (p:Tlv→Bool)
  (hg: ∀x∈a,callP (envG G) F m g [.d (.agg x.cells),.ptr 0 0] [some (.cells false [.d (.int k0 z)])] []=some ⟨[.d (.bool (p x))],[],[some (.cells false [.d (.int k0 z)])],[]⟩):
  callP (envG G) F (m+1) 197 [.d (.sl 5 nl (Tlv.cellsL a)),.fn g [.ptr 0 0]] [some (.cells false [.d (.int k0 z)])] []=some ⟨[.d (.int .i64 (firstIx p 0 a))],[],[some (.cells false [.d (.int k0 z)])],[]⟩:=by
 rw[callP_run (fn:=Tryz.f197) rfl rfl rfl (by simp[Tryz.ntmps197])]
 generalize hC:(envG G).ctx 197 (callN (envG G) F m) (callP (envG G) F m)=C
 have htt:C.tt=(envG G).tt:=by rw[←hC];rfl
 have hlin:C.lin=[]:=by rw[←hC];rfl
 have hreg:C.reg=reg197:=by rw[←hC];rfl
 have hcall:C.callP=callP (envG G) F m:=by rw[←hC];rfl
 have hl1:C.live 2=[0,1,7,8]:=by rw[←hC];rfl
 have hl2:C.live 100002=[4]:=by rw[←hC];rfl
 have hL:=fun st h=>loop_ixP (G:=G) (.cells false [.d (.int k0 z)]) rfl (fun ρ=>rfl) rfl htt hlin hreg hcall rfl nl a ha p hg a 0 F st rfl (by omega) hF h
 simp[htt,hlin,hreg,reg197,hcall,ev_loop,hl1,hl2,cellsL_len]
 rw[hL _ (by simp)]
 split
 ·rename_i h;simp[htt,hlin,hreg,reg197]
 ·rename_i h
  simp[htt,hlin,hreg,reg197,firstIx_neg p a 0 h]
theorem t_containsP (F m g:Nat) (k0:IntKind) (z:Int) (nl:Bool) (a:List Tlv) (ha:a.length≤140737488355328) (hF:a.length<F) (p:Tlv→Bool)
  (hg: ∀x∈a,callP (envG G) F m g [.d (.agg x.cells),.ptr 0 0] [some (.cells false [.d (.int k0 z)])] []=some ⟨[.d (.bool (p x))],[],[some (.cells false [.d (.int k0 z)])],[]⟩):
  callP (envG G) F (m+2) 129 [.d (.sl 5 nl (Tlv.cellsL a)),.fn g [.ptr 0 0]] [some (.cells false [.d (.int k0 z)])] []=some ⟨[.d (.bool (a.any p))],[],[some (.cells false [.d (.int k0 z)])],[]⟩:=by
 rw[callP_run (fn:=Tryz.f129) rfl rfl rfl (by simp[Tryz.ntmps129])]
 generalize hC:(envG G).ctx 129 (callN (envG G) F (m+1)) (callP (envG G) F (m+1))=C
 have htt:C.tt=(envG G).tt:=by rw[←hC];rfl
 have hlin:C.lin=[]:=by rw[←hC];rfl
 have hreg:C.reg=reg129:=by rw[←hC];rfl
 have hcall:C.callP=callP (envG G) F (m+1):=by rw[←hC];rfl
 have k1:=t_ixP (G:=G) F m g k0 z nl a ha hF p hg
 rw[←firstIx_any p 0 a]
 simp[htt,hlin,hreg,reg129,hcall,k1]
def deepB (x:Tlv) (z:Int):Bool:=decide (z<x.depth)
theorem deepL_any (z:Int) (hz:1≤z): ∀l:List Tlv,(l.any fun k=>deepB k (z-1))=decide (z-1<Tlv.depthL l)
 |[]=>by
  have: ¬(z-1<((0:Nat):Int)):=by omega
  simp only[List.any_nil,Tlv.depthL,this,decide_false]
 |x::l=>by
  rw[List.any_cons,deepL_any z hz l]
  show (decide (z-1<(x.depth:Int))||decide (z-1<(Tlv.depthL l:Int)))=decide (z-1<((max x.depth (Tlv.depthL l):Nat):Int))
  by_cases h1:z-1<(x.depth:Int)
  ·have:z-1<((max x.depth (Tlv.depthL l):Nat):Int):=by omega
   simp only[h1,this,decide_true,Bool.true_or]
  ·by_cases h2:z-1<(Tlv.depthL l:Int)
   ·have:z-1<((max x.depth (Tlv.depthL l):Nat):Int):=by omega
    simp only[h1,h2,this,decide_true,Bool.or_true]
   ·have: ¬(z-1<((max x.depth (Tlv.depthL l):Nat):Int)):=by omega
    simp only[h1,h2,this,decide_false,Bool.or_false]
theorem t_deep1 (F m:Nat) (x:Tlv) (z:Int) (h1: -9223372036854775808≤z-1) (h2:z-1≤9223372036854775807) (r:Bool) (h:callN (envG G) F m 151 [.d (.agg x.cells),.d (.int .i64 (z-1))]=some ⟨[.d (.bool r)],[]⟩):
  callP (envG G) F (m+1) 214 [.d (.agg x.cells),.ptr 0 0] [some (.cells false [.d (.int .i64 z)])] []=some ⟨[.d (.bool r)],[],[some (.cells false [.d (.int .i64 z)])],[]⟩:=by
 obtain⟨c,t,md,bn,b,kn,ks⟩:=x
 simp only[Tlv.cells] at h⊢
 rw[callP_run (fn:=Tryz.f214) rfl rfl rfl (by simp[Tryz.ntmps214])]
 generalize hC:(envG G).ctx 214 (callN (envG G) F m) (callP (envG G) F m)=C
 have htt:C.tt=(envG G).tt:=by rw[←hC];rfl
 have hlin:C.lin=[]:=by rw[←hC];rfl
 have hreg:C.reg=reg214:=by rw[←hC];rfl
 have hcall:C.call=callN (envG G) F m:=by rw[←hC];rfl
 simp[htt,hlin,hreg,reg214,hcall,h,h1,h2]
theorem t_deep (F:Nat) (hF:F≤140737488355328) (B:Nat) (hB:B<F): ∀(d n:Nat) (x:Tlv) (z:Int),x.depth≤d→x.width B→ -9223372036854775808≤z→z≤9223372036854775807→
  callN (envG G) F (n+4*d) 151 [.d (.agg x.cells),.d (.int .i64 z)]=some ⟨[.d (.bool (deepB x z))],[]⟩:=by
 intro d
 induction d with
 |zero=>intro n x z hd;cases x;simp[Tlv.depth] at hd
 |succ d ih=>
  intro n x z hd hw hz1 hz2
  obtain⟨c,t,m,bn,b,kn,ks⟩:=x
  simp only[Tlv.depth] at hd
  simp only[Tlv.width] at hw
  rw[show n+4*(d+1)=n+4*d+3+1 by omega,callN_run (fn:=Tryz.f151) rfl rfl rfl (by simp[Tryz.ntmps151])]
  generalize hC:(envG G).ctx 151 (callN (envG G) F (n+4*d+3)) (callP (envG G) F (n+4*d+3))=C
  have htt:C.tt=(envG G).tt:=by rw[←hC];rfl
  have hlin:C.lin=[]:=by rw[←hC];rfl
  have hreg:C.reg=reg151:=by rw[←hC];rfl
  have hcall:C.callP=callP (envG G) F (n+4*d+3):=by rw[←hC];rfl
  by_cases h1:z<1
  ·have e:deepB (.mk c t m bn b kn ks) z=true:=by
    have h2:z<((Tlv.depthL ks+1:Nat):Int):=by omega
    unfold deepB
    exact decide_eq_true h2
   simp only[Tlv.cells]
   rw[e]
   simp[htt,hlin,hreg,reg151,hcall,h1]
  ·have e:deepB (.mk c t m bn b kn ks) z=ks.any fun k=>deepB k (z-1):=by
    rw[deepL_any z (by omega)]
    simp only[deepB,Tlv.depth]
    congr 1
    apply propext
    omega
   have hk1:ks.length≤B:=hw.2.1
   have k1:=t_containsP (G:=G) F (n+4*d+1) 214 .i64 z kn ks (by omega) (by omega) (fun k=>deepB k (z-1)) (fun x hx=>
    t_deep1 (G:=G) F (n+4*d) x z (by omega) (by omega) (deepB x (z-1)) (ih n x (z-1) (by have:=depthL_mem hx;omega) (widthL_mem hw.2.2 hx) (by omega) (by omega)))
   simp only[Tlv.cells]
   rw[e]
   simp[htt,hlin,hreg,reg151,hcall,h1,k1]
end Go.Proofs.YthpmkmogoejjpaaGreatDoor
set_option linter.unusedSimpArgs false
set_option linter.unusedVariables false
namespace Go.Proofs.YthpmkmogoejjpaaGreatDoor
open Go Go.VM
variable {G : GE}
set_option maxRecDepth 100000
set_option maxHeartbeats 4000000
def headN (n:Int):Int:=if n<128 then 2 else if n<256 then 3 else if n<65536 then 4 else 5
theorem t_head (F n:Nat) (k:Int):callN (envG G) F (n+1) 153 [.d (.int .i64 k)]=some ⟨[.d (.int .i64 (headN k))],[]⟩:=by
 rw[callN_run (fn:=Tryz.f153) rfl rfl rfl (by simp[Tryz.ntmps153])]
 generalize hC:(envG G).ctx 153 (callN (envG G) F n) (callP (envG G) F n)=C
 have htt:C.tt=(envG G).tt:=by rw[←hC];rfl
 have hlin:C.lin=[]:=by rw[←hC];rfl
 have hreg:C.reg=reg153:=by rw[←hC];rfl
 simp[htt,hlin,hreg,reg153]
 unfold headN
 repeat (first|(simp only[condE_ite,decide_eq_true_eq];split)|(simp[htt,hlin,hreg,reg153, *]))
end Go.Proofs.YthpmkmogoejjpaaGreatDoor
set_option linter.unusedSimpArgs false
set_option linter.unusedVariables false
namespace Go.Proofs.YthpmkmogoejjpaaGreatDoor
open Go Go.VM
variable {G : GE}
set_option maxRecDepth 100000
set_option maxHeartbeats 4000000
mutual
def Tlv.sizeN:Tlv→Int
 | .mk _ _ _ _ b _ ks=>Tlv.sizeL ks b.length+headN (Tlv.sizeL ks b.length)
def Tlv.sizeL:List Tlv→Int→Int
 |[],n=>n
 |x::l,n=>if n≤1048576 then Tlv.sizeL l (n+x.sizeN) else n
end
theorem headN_le (n:Int):2≤headN n∧headN n≤5:=by unfold headN;split<;>(try split)<;>(try split)<;>omega
theorem sizeL_le {K S:Int} (hK:1048576+S≤K): ∀l:List Tlv,(∀y∈l,0≤y.sizeN∧y.sizeN≤S)→ ∀n:Int,0≤n→n≤K→0≤Tlv.sizeL l n∧Tlv.sizeL l n≤K
 |[],_,n,h0,h1=>⟨h0,h1⟩
 |x::l,h,n,h0,h1=>by
  have hx:=h x (by simp)
  simp only[Tlv.sizeL]
  split
  ·exact sizeL_le hK l (fun y hy=>h y (by simp[hy])) _ (by omega) (by omega)
  ·exact⟨h0,h1⟩
theorem sizeN_le {B:Nat} (hB:B≤140737488355328): ∀(d:Nat) (x:Tlv),x.depth≤d→x.width B→0≤x.sizeN∧x.sizeN≤140737488355328+2000000*d:=by
 intro d
 induction d with
 |zero=>intro x hd;cases x;simp[Tlv.depth] at hd
 |succ d ih=>
  intro x hd hw
  obtain⟨c,t,m,bn,b,kn,ks⟩:=x
  simp only[Tlv.depth] at hd
  simp only[Tlv.width] at hw
  have h1:=sizeL_le (K:=140737488355328+2000000*d+1048576) (S:=140737488355328+2000000*d) (by omega) ks
   (fun y hy=>ih y (by have:=depthL_mem hy;omega) (widthL_mem hw.2.2 hy)) b.length (by omega) (by omega)
  have h2:=headN_le (Tlv.sizeL ks b.length)
  simp only[Tlv.sizeN]
  omega
theorem loop_size {C:Ctx} {F m B:Nat} (htt:C.tt=(envG G).tt) (hlin:C.lin=[]) (hreg:C.reg=reg152) (hcall:C.call=callN (envG G) F m) {c:Code}
  (hc:loopAt 3 Tryz.f152=some c) (p0 p1 p2 p3:D) (nl:Bool) (a:List Tlv) (ha:a.length≤140737488355328)
  (hg: ∀x∈a,callN (envG G) F m 152 [.d (.agg x.cells)]=some ⟨[.d (.int .i64 x.sizeN)],[]⟩) (hs: ∀x∈a,0≤x.sizeN∧x.sizeN≤4611686018427387904):
  ∀(us:List Tlv) (i k:Nat) (z:Int) (st:St),a.drop i=us→i≤a.length→us.length<k→0≤z→
   st.trim 1 [1,3,4]=⟨[(1,.ptr 0 0),(3,.d (.int .i64 z)),(4,.d (.int .i64 i))],[some (.cells false [.d p0,.d p1,.d p2,.d p3,.d (.sl 5 nl (Tlv.cellsL a))])],[]⟩→
   iter (ev C F c) 1 [1,3,4] [2,3] k st=some (.exit 0,⟨[(3,.d (.int .i64 (Tlv.sizeL us z)))],[some (.cells false [.d p0,.d p1,.d p2,.d p3,.d (.sl 5 nl (Tlv.cellsL a))])],[]⟩):=by
 have hev: ∀st,ev C F c st=ev C F ((loopAt 3 Tryz.f152).getD .skip) st:=fun st=>by rw[hc];rfl
 intro us
 induction us with
 |nil=>
  intro i k z st hd hi hk hz hst
  obtain⟨k,rfl⟩: ∃j,k=j+1:=⟨k-1,by simp at hk;omega⟩
  have h0:=drop_nil hd
  have e0: ¬((i:Int)<(a.length:Int)):=by omega
  rw[iter_eq,hst,hev]
  simp[loopAt,findLoop,Tryz.f152,htt,hlin,hreg,reg152,e0,Tlv.sizeL,cellsL_len]
 |cons x us ih=>
  intro i k z st hd hi hk hz hst
  obtain⟨k,rfl⟩: ∃j,k=j+1:=⟨k-1,by simp at hk;omega⟩
  simp at hk
  obtain⟨hd2,hlt⟩:=drop_succ hd
  have ra:=cellsL_at hd
  have hxm:=List.mem_of_getElem? (at_of_drop hd)
  have hx:=hg x hxm
  have hsx:=hs x hxm
  have e0:(i:Int)<(a.length:Int):=by omega
  have e1:(i:Int)+1≤9223372036854775807:=by omega
  have e2:(-9223372036854775808:Int)≤(i:Int)+1:=by omega
  rw[iter_eq,hst,hev]
  by_cases hm:z≤1048576
  ·have e3:z+x.sizeN≤9223372036854775807:=by omega
   have e4: -9223372036854775808≤z+x.sizeN:=by omega
   have ih' :=fun st h=>ih (i+1) k (z+x.sizeN) st hd2 (by omega) hk (by omega) h
   have es:Tlv.sizeL (x::us) z=Tlv.sizeL us (z+x.sizeN):=by simp only[Tlv.sizeL,if_pos hm]
   rw[es]
   clear es
   obtain⟨c1,t,md,bn,b,kx,ks⟩:=x
   simp only[Tlv.cells] at ra hx
   generalize Tlv.sizeN (.mk c1 t md bn b kx ks)=s at*
   simp[loopAt,findLoop,Tryz.f152,htt,hlin,hreg,reg152,hcall,e0,e1,e2,e3,e4,hm,ra,hx,cellsL_len]
   exact ih' _ (by simp)
  ·have es:Tlv.sizeL (x::us) z=z:=by simp only[Tlv.sizeL,if_neg hm]
   rw[es]
   simp[loopAt,findLoop,Tryz.f152,htt,hlin,hreg,reg152,hcall,e0,hm,cellsL_len]
theorem t_size (F:Nat) (hF:F≤140737488355328) (B:Nat) (hB:B<F): ∀(d n:Nat) (x:Tlv),d≤1000000→x.depth≤d→x.width B→
  callN (envG G) F (n+2*d) 152 [.d (.agg x.cells)]=some ⟨[.d (.int .i64 x.sizeN)],[]⟩:=by
 intro d
 induction d with
 |zero=>intro n x _ hd;cases x;simp[Tlv.depth] at hd
 |succ d ih=>
  intro n x hd0 hd hw
  have hb1:=sizeN_le (B:=B) (by omega) (d+1) x hd hw
  obtain⟨c,t,m,bn,b,kn,ks⟩:=x
  simp only[Tlv.depth] at hd
  simp only[Tlv.width] at hw
  have hkl:ks.length≤B:=hw.2.1
  have hbl:b.length≤B:=hw.1
  have hh:=fun k=>t_head (G:=G) F (n+2*d) k
  simp only[Tlv.cells]
  rw[show n+2*(d+1)=n+2*d+1+1 by omega,callN_run (fn:=Tryz.f152) rfl rfl rfl (by simp[Tryz.ntmps152])]
  generalize hC:(envG G).ctx 152 (callN (envG G) F (n+2*d+1)) (callP (envG G) F (n+2*d+1))=C
  have htt:C.tt=(envG G).tt:=by rw[←hC];rfl
  have hlin:C.lin=[]:=by rw[←hC];rfl
  have hreg:C.reg=reg152:=by rw[←hC];rfl
  have hcall:C.call=callN (envG G) F (n+2*d+1):=by rw[←hC];rfl
  have hl1:C.live 3=[1,3,4]:=by rw[←hC];rfl
  have hl2:C.live 100003=[2,3]:=by rw[←hC];rfl
  have hL:=fun st h=>loop_size (G:=G) (B:=B) htt hlin hreg hcall rfl (.int .i64 c) (.int .i64 t) (.bool m) (.nums .u8 bn b) kn ks (by omega)
   (fun x hx=>by
    have:=ih (n+1) x (by omega) (by have:=depthL_mem hx;omega) (widthL_mem hw.2.2 hx)
    rwa [show n+1+2*d=n+2*d+1 by omega] at this)
   (fun x hx=>by have:=sizeN_le (B:=B) (by omega) d x (by have:=depthL_mem hx;omega) (widthL_mem hw.2.2 hx);omega) ks 0 F b.length st rfl (by omega) (by omega) (by omega) h
  simp only[Tlv.sizeN] at hb1⊢
  have h2:=headN_le (Tlv.sizeL ks b.length)
  generalize hsz:Tlv.sizeL ks (b.length:Int)=s at*
  have e3:s+headN s≤9223372036854775807:=by omega
  have e4: -9223372036854775808≤s+headN s:=by omega
  simp[htt,hlin,hreg,reg152,hcall,ev_loop,hl1,hl2]
  rw[hL _ (by simp)]
  simp[htt,hlin,hreg,reg152,hcall,hh,e3,e4]
end Go.Proofs.YthpmkmogoejjpaaGreatDoor
