/- For every input CrlEncodes returns true, and the input reads as it did; what the laid variables are, is tied to the program's text. -/
import Derived.Test.YthpmkmogoejjpaaGreatDoorSO
import Derived.Test.YthpmkmogoejjpaaGreatDoorTie
import Derived.Test.YthpmkmogoejjpaaGreatDoorCards
import Derived.SevenTiedAt
namespace Go.Proofs.YthpmkmogoejjpaaGreatDoor.crlEncodes
open Go.ChangeShapes Go.WideShapes Go.ChangeAt Go.RowKit Go.VM
set_option linter.unusedVariables false
set_option maxRecDepth 100000 in
set_option maxHeartbeats 8000000 in
theorem lifted (os:Os) (started:os.Started) (H:Type) (enc:TypeId×Value→H):
  ReturnsInHanded {} Tryz.checked os 5 .any (fun w args=>(Rows.crlEncodesSpec.pre enc Tryz.prog Tryz.f5 [] false w args∧laidMetH Tryz.prog sgLaid w)∧sizedMet enc Tryz.prog Tryz.f5 (OpenSpec.ofChange Rows.crlEncodesSpec) false w args)
   (Rows.crlEncodesSpec.post enc Tryz.prog Tryz.f5 false true false false):=by
 refine returnsInHanded_of_change_and (C:=Tryz.checked) (X:=fun w _=>laidMetH Tryz.prog sgLaid w) (fun _ _ _ hh h=>h.of_heap hh) own started (by kernel_rfl) Tryz.func5
  (ChangeSpec.witness_at (enc:=enc) (C:=Tryz.checked) (os:=os) (X:=fun w _=>laidMetH Tryz.prog sgLaid w) false (sgWorld os) #[.slice none 0 0,.agg #[.int .u64 0,.int .u64 0,.int .u64 0,.int .u64 0,.int .u64 0,.int .u64 0,.int .u64 0,.int .u64 0,.int .u64 0,.int .u64 0,.int .u64 0,.int .u64 0]] 8 rfl (by kernel_rfl) (by kernel_rfl) (by kernel_rfl) (by kernel_rfl) (by kernel_rfl) (sgWorld_met os _)) ?_
 intro W base args ds gs before hval0 hW hcnd hsz0 hL _
 have hval: ∀(j:Nat) t v,(Tryz.f5).params[j]? =some t→args[j]? =some v→Value.okWide Tryz.prog W .any base t v:=hval0
 have hsz:(DataW.weightsEach Tryz.prog ((Tryz.f5).params.toList++Rows.crlEncodesSpec.plain.varTypes Tryz.prog) (ds++gs)).all (· ≤reachBytes)=true:=hsz0
 have hg:=rep_sg hL
 have hW' :=hW
 obtain⟨p,q,hA0,hV,rfl,hfz,hnd⟩:=hW
 have hA:DataW.TrodAll enc Tryz.prog W 0 (fun _=>true) true (Tryz.f5).params.toList args.toList ds p:=hA0
 rw[Tryz.params5] at hA hval hsz
 obtain⟨v0,vs0,d0,ds0,p0,q0,hargs,rfl,rfl,h0,r0⟩:=trodAll_cons hA
 obtain⟨v1,vs1,d1,ds1,p1,q1,rfl,rfl,rfl,h1,r1⟩:=trodAll_cons r0
 obtain⟨rfl,rfl,rfl⟩:=trodAll_nil r1
 obtain rfl:args= #[v0,v1]:=by cases args;simp_all
 obtain⟨rfl,rfl⟩:=trodVars_none hV
 have ok0:=hval 0 25 v0 rfl rfl
 obtain⟨a0,len0,cap0,rfl⟩:=okWide_slice Tryz.underlying25 ok0
 have k0:=h0
 have lt0: ∀x∈p0,x.block<W.heap.size:=by obtain⟨m,hm⟩:=k0;exact DataW.trod_lt m _ _ _ hm
 have R0: ∃nl xs,(nl=true→xs=[])∧xs.length≤140737488355328∧(∀x∈xs,0≤x∧x<256)∧RepD W noOwn (.slice a0 len0 cap0) (.nums .u8 nl xs):=by
  obtain⟨fuel,hf⟩:=h0
  rcases open_ints Tryz.underlying25 Tryz.underlying5 (by kernel_rfl) hf with⟨hcs,_⟩|⟨x,l,c,zs,hcs,_,hl,hm,hz,hdd,hcell,hwz⟩
  ·simp[Value.cells] at hcs
   obtain⟨rfl,rfl,rfl⟩:=hcs
   exact⟨true,[],fun _=>rfl,by simp,by simp,rep_nil W .u8⟩
  ·simp[Value.cells] at hcs
   obtain⟨rfl,rfl,rfl⟩:=hcs
   have hd0:=congrArg Prod.fst hdd
   simp only at hd0
   have hb:=sized_slice hsz (j:=0) (t:=25) (e:=5) rfl (by rw[hd0];rfl) Tryz.underlying25
   rw[show Tryz.prog.bytesOf 5=1 by kernel_rfl] at hb
   simp only[lits,List.length_map,List.length_take,List.length_drop,reachBytes] at hb
   have hs:x.spot=none:=by
    simp only[Value.okWide,Tryz.underlying25,Cell.okWide,Cell.ok,World.has] at ok0
    exact ok0.2.2.2.1
   obtain⟨b,o,s⟩:=x
   simp only at hs
   subst hs
   simp at hz
   exact⟨false,_,fun h=>(by cases h),(by simp only[List.length_take];omega),(fun x hx=>byte_of_wf (hwz x (List.mem_of_mem_take hx))),rep_row hl hm (by omega) hcell hwz⟩
 obtain⟨nl0,xs0,hn0,hx0,hb0,R0⟩:=R0
 have ok1:=hval 1 30 v1 rfl rfl
 simp only[Value.okWide,Tryz.underlying30] at ok1
 obtain⟨arr1,rfl,_,_⟩:=ok1
 have k1:=h1
 have lt1: ∀x∈p1,x.block<W.heap.size:=by obtain⟨m,hm⟩:=k1;exact DataW.trod_lt m _ _ _ hm
 obtain⟨ns1,hl1,hw1,R1⟩:=flat_in (m:=9) (k:=9) (n:=12) (q:= .u64) h1 (by kernel_rfl) (by kernel_rfl) (by kernel_rfl)
 obtain⟨c1_0,c1_1,c1_2,c1_3,c1_4,c1_5,c1_6,c1_7,c1_8,c1_9,c1_10,c1_11,rfl⟩: ∃c0 c1 c2 c3 c4 c5 c6 c7 c8 c9 c10 c11,ns1=[c0,c1,c2,c3,c4,c5,c6,c7,c8,c9,c10,c11]:=by
  match ns1,hl1 with
  |[c0,c1,c2,c3,c4,c5,c6,c7,c8,c9,c10,c11],_=>exact⟨c0,c1,c2,c3,c4,c5,c6,c7,c8,c9,c10,c11,rfl⟩
 have i1:In64 [c1_0,c1_1,c1_2,c1_3,c1_4,c1_5,c1_6,c1_7,c1_8,c1_9,c1_10,c1_11]:=fun x hx=>u64_of_wf (hw1 x hx)
 clear hA0 hval0
 have G:Given W noOwn #[.slice a0 len0 cap0,.agg arr1] [.d (.nums .u8 nl0 xs0),.d (.agg [.int .u64 c1_0,.int .u64 c1_1,.int .u64 c1_2,.int .u64 c1_3,.int .u64 c1_4,.int .u64 c1_5,.int .u64 c1_6,.int .u64 c1_7,.int .u64 c1_8,.int .u64 c1_9,.int .u64 c1_10,.int .u64 c1_11])]:=by
  refine⟨rfl,fun j x hx=> ?_⟩
  rcases j with _|_|j
  ·simp at hx;subst hx;exact .d _ _ (R0)
  ·simp at hx;subst hx;exact .d _ _ (R1)
  ·simp at hx
 refine(call_ofG gSg_ok (en_law 2000000 (by omega) (by omega) 0 xs0 nl0 hn0 hb0 c1_0 c1_1 c1_2 c1_3 c1_4 c1_5 c1_6 c1_7 c1_8 c1_9 c1_10 c1_11 (fun x hx=>i1 x (List.mem_append_left [c1_6,c1_7,c1_8,c1_9,c1_10,c1_11] hx)) (fun x hx=>i1 x (List.mem_append_right [c1_0,c1_1,c1_2,c1_3,c1_4,c1_5] hx))) G hg).mono fun e W' ⟨he,bel⟩=> ?_
 subst he
 exact⟨_,rfl,_,_,_,[],_,[],hW',trodAll_mk1 (shut_bool Tryz.underlying4 _),(trodAll_cons_mk (Below.trod laidOut (by kernel_rfl) (of_decide_eq_true (by kernel_rfl)) k0 bel lt0) (trodAll_cons_mk (Below.trod laidOut (by kernel_rfl) (of_decide_eq_true (by kernel_rfl)) k1 bel lt1) trodAll_mk0)),rfl,bel.frame _,fun h=>by cases h⟩
theorem o_name:Tryz.prog.funcNamed Rows.crlEncodesRow.func=some 5:=by kernel_rfl
theorem o_facts:joinedFacts Tryz.prog 5 Tryz.f5 Rows.crlEncodesSpec Rows.crlEncodesRow=true:=by kernel_rfl
theorem o_inst:(Tryz.f5).isInstance Tryz.prog Rows.crlEncodesRow.origin Rows.crlEncodesRow.targs:=of_decide_eq_true (by kernel_rfl)
theorem o_wrap:(Tryz.f5).isWrapper Tryz.prog Rows.crlEncodesRow.wrapper Rows.crlEncodesRow.mainSum:=by unfold Func.isWrapper;first|(rw[if_pos (by decide+kernel)];kernel_rfl)|(rw[if_neg (by decide+kernel)];exact⟨rfl,rfl⟩)
theorem over:Rows.CrlEncodesSaid:=
 OpenClaim.holds_of_wide 5 Tryz.f5 rfl rfl rfl rfl rfl rfl rfl ⟨rfl,rfl,rfl,rfl,rfl⟩ rfl rfl rfl rfl rfl o_name Tryz.func5 o_facts o_inst o_wrap
  (fun os started H enc _=>lifted os started H enc)
theorem proved:Rows.CrlEncodesCardSaid:=
 Claim7.holds_tied_plain_at .later [] [.handle,.data] true (true, "9dc0b63c58a552aa0b0410f794a44de212f10a797df3e37b94bf22b28f0f9bd4") true
  over (fun _ h=>by cases h) (by kernel_rfl) (fun _ h=>by cases h) crlEncodes_row_tie rfl ⟨rfl,rfl⟩ (by kernel_rfl) rfl
  (fun f fn hf hfn=>by
   obtain rfl:f=5:=Option.some.inj ((show Tryz.prog.funcNamed "escutcheon/escutcheonlaw18.CrlEncodes" =some 5 by kernel_rfl).symm.trans hf)|>.symm
   obtain rfl:fn=Tryz.f5:=(Option.some.inj (Tryz.func5.symm.trans hfn)).symm
   exact⟨by kernel_rfl,fun j t ht=>by
    rw[Tryz.params5] at ht
    rcases j with _|_|j
    ·obtain rfl:25=t:=by simpa using ht
     exact(show Tryz.prog.wantsStandIn 25=false by kernel_rfl)
    ·obtain rfl:30=t:=by simpa using ht
     exact(show Tryz.prog.wantsStandIn 30=false by kernel_rfl)
    ·simp at ht⟩)
  (by kernel_rfl)
#print axioms proved
end Go.Proofs.YthpmkmogoejjpaaGreatDoor.crlEncodes
