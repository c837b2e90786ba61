/- For every input CrlHas returns true, and the input reads as it did; what the laid variables are, is tied to the program's text. -/
import Derived.Test.YthpmkmogoejjpaaDoorSD
import Derived.Test.YthpmkmogoejjpaaDoorTie
import Derived.Test.YthpmkmogoejjpaaDoorCards
import Derived.SevenTiedAt
namespace Go.Proofs.YthpmkmogoejjpaaDoor.crlHas
open Go.ChangeShapes Go.WideShapes Go.ChangeAt Go.RowKit Go.VM
set_option linter.unusedVariables false
set_option maxRecDepth 100000 in
set_option maxHeartbeats 8000000 in
theorem lifted (os:Os) (started:os.Started) (H:Type) (enc:TypeId×Value→H):
  ReturnsInHanded {} Tryd.checked os 4 .any (fun w args=>(Rows.crlHasSpec.pre enc Tryd.prog Tryd.f4 [] false w args∧laidMetH Tryd.prog grData w)∧sizedMet enc Tryd.prog Tryd.f4 (OpenSpec.ofChange Rows.crlHasSpec) false w args)
   (Rows.crlHasSpec.post enc Tryd.prog Tryd.f4 false true false false):=by
 refine returnsInHanded_of_change_and (C:=Tryd.checked) (X:=fun w _=>laidMetH Tryd.prog grData w) (fun _ _ _ hh h=>h.of_heap hh) own started (by kernel_rfl) Tryd.func4
  (ChangeSpec.witness_at (enc:=enc) (C:=Tryd.checked) (os:=os) (X:=fun w _=>laidMetH Tryd.prog grData w) false (grWorld os) #[.agg #[.slice none 0 0,.int .i64 0,.int .i64 0,.slice none 0 0,.slice none 0 0,.int .u64 0,.int .u64 0,.int .u64 0,.int .u64 0,.int .u64 0,.int .u64 0,.int .u64 0,.int .u64 0,.int .u64 0,.int .u64 0,.int .u64 0,.int .u64 0],.slice none 0 0] 8 rfl (by kernel_rfl) (by kernel_rfl) (by kernel_rfl) (by kernel_rfl) (by kernel_rfl) (grWorld_met os _)) ?_
 intro W base args ds gs before hval0 hW hcnd hsz0 hL _
 have hval: ∀(j:Nat) t v,(Tryd.f4).params[j]? =some t→args[j]? =some v→Value.okWide Tryd.prog W .any base t v:=hval0
 have hsz:(DataW.weightsEach Tryd.prog ((Tryd.f4).params.toList++Rows.crlHasSpec.plain.varTypes Tryd.prog) (ds++gs)).all (· ≤reachBytes)=true:=hsz0
 have hg:=rep_gr hL
 have hW' :=hW
 obtain⟨p,q,hA0,hV,rfl,hfz,hnd⟩:=hW
 have hA:DataW.TrodAll enc Tryd.prog W 0 (fun _=>true) true (Tryd.f4).params.toList args.toList ds p:=hA0
 rw[Tryd.params4] at hA hval hsz
 obtain⟨v0,vs0,d0,ds0,p0,q0,hargs,rfl,rfl,h0,r0⟩:=trodAll_cons hA
 obtain⟨v1,vs1,d1,ds1,p1,q1,rfl,rfl,rfl,h1,r1⟩:=trodAll_cons r0
 obtain⟨rfl,rfl,rfl⟩:=trodAll_nil r1
 obtain rfl:args= #[v0,v1]:=by cases args;simp_all
 obtain⟨rfl,rfl⟩:=trodVars_none hV
 have ok0:=hval 0 32 v0 rfl rfl
 simp only[Value.okWide,Tryd.underlying32] at ok0
 obtain⟨arr0,rfl,_,_⟩:=ok0
 have k0:=h0
 have lt0: ∀x∈p0,x.block<W.heap.size:=by obtain⟨m,hm⟩:=k0;exact DataW.trod_lt m _ _ _ hm
 obtain⟨ds0',f0,R0,hfit0⟩:=wagg_in (G:=gHa) gHa_ok (L:=[3,2,9,5,26,25,113,23,43,24,28,30,32]) (by kernel_rfl) (by simp) h0 (sized_j hsz (j:=0) (t:=32) rfl rfl)
 obtain⟨ni0,na0,ths0,nxt0,ng0,gs0,nb0,bd0,sg0,rfl,hni0,hna0,hnp0,hth0,hnx0,hng0,hgl0,hgo0,hnb0,hbl0,hby0,hs120,hs640⟩:=crl_fit hfit0
 obtain⟨q0,q1,q2,q3,q4,q5,q6,q7,q8,q9,q10,q11,rfl⟩:=twelve hs120
 have hgl32:=field_len (q:=3) h0 (sized_j hsz (j:=0) (t:=32) rfl rfl) Tryd.underlying32 rfl Tryd.underlying24 (by kernel_rfl) R0 rfl
 rw[show Tryd.prog.bytesOf 43=32 by kernel_rfl,List.length_map] at hgl32
 have ok1:=hval 1 25 v1 rfl rfl
 obtain⟨a1,len1,cap1,rfl⟩:=okWide_slice Tryd.underlying25 ok1
 have k1:=h1
 have lt1: ∀x∈p1,x.block<W.heap.size:=by obtain⟨m,hm⟩:=k1;exact DataW.trod_lt m _ _ _ hm
 have R1: ∃nl xs,(nl=true→xs=[])∧xs.length≤140737488355328∧(∀x∈xs,0≤x∧x<256)∧RepD W noOwn (.slice a1 len1 cap1) (.nums .u8 nl xs):=by
  obtain⟨fuel,hf⟩:=h1
  rcases open_ints Tryd.underlying25 Tryd.underlying5 (by kernel_rfl) hf with⟨hcs,_⟩|⟨x,l,c,zs,hcs,_,hl,hm,hz,hdd,hcell,hwz⟩
  ·simp[Value.cells] at hcs
   obtain⟨rfl,rfl,rfl⟩:=hcs
   exact⟨true,[],fun _=>rfl,by simp,by simp,rep_nil W .u8⟩
  ·simp[Value.cells] at hcs
   obtain⟨rfl,rfl,rfl⟩:=hcs
   have hd0:=congrArg Prod.fst hdd
   simp only at hd0
   have hb:=sized_slice hsz (j:=1) (t:=25) (e:=5) rfl (by rw[hd0];rfl) Tryd.underlying25
   rw[show Tryd.prog.bytesOf 5=1 by kernel_rfl] at hb
   simp only[lits,List.length_map,List.length_take,List.length_drop,reachBytes] at hb
   have hs:x.spot=none:=by
    simp only[Value.okWide,Tryd.underlying25,Cell.okWide,Cell.ok,World.has] at ok1
    exact ok1.2.2.2.1
   obtain⟨b,o,s⟩:=x
   simp only at hs
   subst hs
   simp at hz
   exact⟨false,_,fun h=>(by cases h),(by simp only[List.length_take];omega),(fun x hx=>byte_of_wf (hwz x (List.mem_of_mem_take hx))),rep_row hl hm (by omega) hcell hwz⟩
 obtain⟨nl1,xs1,hn1,hx1,hb1,R1⟩:=R1
 clear hA0 hval0
 have G:Given W noOwn #[.agg arr0,.slice a1 len1 cap1] [.d (.agg (crlC (.sl 2 ni0 (rows na0)) ths0 nxt0 ng0 gs0 (.nums .u8 nb0 bd0) q0 q1 q2 q3 q4 q5 q6 q7 q8 q9 q10 q11)),.d (.nums .u8 nl1 xs1)]:=by
  refine⟨rfl,fun j x hx=> ?_⟩
  rcases j with _|_|j
  ·simp at hx;subst hx;exact .d _ _ (R0)
  ·simp at hx;subst hx;exact .d _ _ (R1)
  ·simp at hx
 refine(call_ofG gHa_ok (ch_law 200000000000000 (by omega) 0 ni0 nb0 (rows na0) bd0 ths0 nxt0 ng0 gs0 hgl32 (by omega) q0 q1 q2 q3 q4 q5 q6 q7 q8 q9 q10 q11 nl1 xs1) G hg).mono fun e W' ⟨he,bel⟩=> ?_
 subst he
 exact⟨_,rfl,_,_,_,[],_,[],hW',trodAll_mk1 (shut_bool Tryd.underlying4 _),(trodAll_cons_mk (Below.trod laidOut (by kernel_rfl) (of_decide_eq_true (by kernel_rfl)) k0 bel lt0) (trodAll_cons_mk (Below.trod laidOut (by kernel_rfl) (of_decide_eq_true (by kernel_rfl)) k1 bel lt1) trodAll_mk0)),rfl,bel.frame _,fun h=>by cases h⟩
theorem o_name:Tryd.prog.funcNamed Rows.crlHasRow.func=some 4:=by kernel_rfl
theorem o_facts:joinedFacts Tryd.prog 4 Tryd.f4 Rows.crlHasSpec Rows.crlHasRow=true:=by kernel_rfl
theorem o_inst:(Tryd.f4).isInstance Tryd.prog Rows.crlHasRow.origin Rows.crlHasRow.targs:=of_decide_eq_true (by kernel_rfl)
theorem o_wrap:(Tryd.f4).isWrapper Tryd.prog Rows.crlHasRow.wrapper Rows.crlHasRow.mainSum:=by unfold Func.isWrapper;first|(rw[if_pos (by decide+kernel)];kernel_rfl)|(rw[if_neg (by decide+kernel)];exact⟨rfl,rfl⟩)
theorem over:Rows.CrlHasSaid:=
 OpenClaim.holds_of_wide 4 Tryd.f4 rfl rfl rfl rfl rfl rfl rfl ⟨rfl,rfl,rfl,rfl,rfl⟩ rfl rfl rfl rfl rfl o_name Tryd.func4 o_facts o_inst o_wrap
  (fun os started H enc _=>lifted os started H enc)
theorem proved:Rows.CrlHasCardSaid:=
 Claim7.holds_tied_plain_at .later [] [.data] true (true, "2a0a60dffba956031f00c3e12bea11cc0e75134bc63ed792e6aa7a1188526db7") true
  over (fun _ h=>by cases h) (by kernel_rfl) (fun _ h=>by cases h) crlHas_row_tie rfl ⟨rfl,rfl⟩ (by kernel_rfl) rfl
  (fun f fn hf hfn=>by
   obtain rfl:f=4:=Option.some.inj ((show Tryd.prog.funcNamed "escutcheon/escutcheonlaw18.CrlHas" =some 4 by kernel_rfl).symm.trans hf)|>.symm
   obtain rfl:fn=Tryd.f4:=(Option.some.inj (Tryd.func4.symm.trans hfn)).symm
   exact⟨by kernel_rfl,fun j t ht=>by
    rw[Tryd.params4] at ht
    rcases j with _|_|j
    ·obtain rfl:32=t:=by simpa using ht
     exact(show Tryd.prog.wantsStandIn 32=false by kernel_rfl)
    ·obtain rfl:25=t:=by simpa using ht
     exact(show Tryd.prog.wantsStandIn 25=false by kernel_rfl)
    ·simp at ht⟩)
  (by kernel_rfl)
#print axioms proved
end Go.Proofs.YthpmkmogoejjpaaDoor.crlHas
