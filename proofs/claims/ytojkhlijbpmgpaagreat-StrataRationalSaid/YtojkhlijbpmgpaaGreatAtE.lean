/- What functions of the program compute: lemmas. -/
import Derived.Test.YtojkhlijbpmgpaaGreatAt1
import Derived.Test.YtojkhlijbpmgpaaGreatAm3
import Derived.Test.YtojkhlijbpmgpaaGreatAm4
import Derived.Test.YtojkhlijbpmgpaaGreatSaTy
set_option linter.unusedSimpArgs false
set_option linter.unusedVariables false
set_option linter.unusedSectionVars false
namespace Go.Proofs.YtojkhlijbpmgpaaGreat
open Go Am Go.Sort Go.RowKit Go.Proofs
set_option maxRecDepth 100000
variable {G : Glob}
theorem natom_run (f : F) : run Ntb 1 (rowF f) = some [.bool (decide (f.op = 3) && decide (f.args.length = 0))] := by
 refine run_ir (x := Nir1) rfl ?_
 by_cases h : f.op = 3
 · simp only [Nir1,rowF,stepQ,stepL,eq_self,aBin,reduceIte,Int.reduceEq,Int.reduceLT,Int.reduceLE,Int.reduceGT,Int.reduceGE,h]
 · simp only [Nir1,rowF,stepQ,stepL,eq_self,aBin,reduceIte,Int.reduceEq,Int.reduceLT,Int.reduceLE,Int.reduceGT,Int.reduceGE,h]
theorem callQ_S {R : Nat → PF} {e : Env} {J : List PF} (k : IR) (l : List (List UInt8)) : callQ R 1 false [0] k e J (some [strsD l]) = den R k (e ++ [strsD l]) J := rfl
theorem names_run : ∀ (f : F) (l : List (List UInt8)),l.length + f.size < 100000000000 → run Ntb 0 (strsD l :: rowF f) = some [strsD (l ++ F.atomL f)] := by
 refine bySizeF fun f ih l hl => ?_
 refine run_ir (x := Nir0) rfl ?_
 have ha := natom_run f
 have hla := F.sizes_len f.args
 have h2 := F.size_eq f
 rw [F.atomL_eq]
 by_cases h : f.op = 3 ∧ f.args.length = 0
 · rw [if_pos h]
   simp only [h.1,h.2,decide_true,Bool.and_self,rowF] at ha
   simp (disch := omega) only [Nir0,rowF,stepQ,stepL,eq_self,aBin,reduceIte,Int.reduceEq,Int.reduceLT,Int.reduceLE,Int.reduceGT,Int.reduceGE,h.1,ha,app_S]
 · rw [if_neg h]
   have hb : (decide (f.op = 3) && decide (f.args.length = 0)) = false := by
    cases hx : (decide (f.op = 3) && decide (f.args.length = 0)) with
    | false => rfl
    | true => simp only [Bool.and_eq_true,decide_eq_true_eq] at hx; exact absurd hx h
   rw [hb] at ha
   have key := loop_k (run := run Ntb) (body := Nir0p0) (e := strsD l :: rowF f ++ [.bool false,.int .i64 f.args.length]) (J := []) (σ := Unit) f.args.length
    (fun _ _ => True) (fun i _ => [.int .i64 i,strsD (l ++ F.atomLs (f.args.take i))]) (fun _ _ => [strsD (l ++ F.atomLs f.args)])
    (by
     intro i s L hi _ hL
     have hm : f.args[i] ∈ f.args := List.getElem_mem hi
     have h1 := F.sizes_take f.args i hi
     have h3 := F.sizes_take_le f.args (i + 1)
     have h4 := F.atomLs_len (f.args.take i)
     have hr := ih _ hm (l ++ F.atomLs (f.args.take i)) (by rw [List.length_append]; omega)
     rw [List.append_assoc,← F.atomLs_take_s _ _ hi] at hr
     simp only [rowF] at hr
     simp (disch := omega) only [Nir0p0,rowF,stepQ,stepL,eq_self,aBin,reduceIte,Int.reduceEq,Int.reduceLT,Int.reduceLE,Int.reduceGT,Int.reduceGE,hi,row_F,hr,wr,natS,callQ_S]
     exact hL () trivial)
    (by
     intro s L _
     simp (disch := omega) only [Nir0p0,rowF,stepQ,stepL,eq_self,aBin,reduceIte,Int.reduceEq,Int.reduceLT,Int.reduceLE,Int.reduceGT,Int.reduceGE,Nat.lt_irrefl,take_all])
   have hk := key 0 () (by omega) trivial
   simp only [rowF,nat0,List.take_zero,F.atomLs,List.append_nil,List.cons_append,List.nil_append] at hk ha
   simp only [Nir0,rowF,stepQ,stepL,eq_self,aBin,reduceIte,Int.reduceEq,Int.reduceLT,Int.reduceLE,Int.reduceGT,Int.reduceGE,ha,hk]
def blkS (fz : Bool) (l : List (List UInt8)) : Blk := rowB fz 9 D.str l
theorem encS_ok : EncOK encStr D.str := ⟨fun w C x => .str x,fun x => rfl,fun w C x v h => by cases h; rfl⟩
theorem names_own (f : F) (l : List (List UInt8)) (h : l.length + f.size < 100000000000) :
 CC Tryz.prog G 158 [blkS false l] [.own 0 l.length 0 l.length,.agg [.d (.int .i64 f.op),.d (.str f.name),.d (.sl (F.encs f.args))]] [blkS false (l ++ F.atomL f)] (.own 0 (l ++ F.atomL f).length 0 (l ++ F.atomL f).length) := by
 have hcc := run_cc (P := Tryz.prog) (G := G) Ntok Ngok (by kernel_rfl) Ntb_ok (i := 0) (sg := Nsg0) rfl (ins := strsD l :: rowF f) (outs := [strsD (l ++ F.atomL f)])
  (by
   intro d hd
   simp only [List.mem_cons,List.not_mem_nil,or_false] at hd
   rcases hd with rfl | rfl | rfl | rfl
   · exact .sl _ fun r hr c hc => by
      simp only [List.mem_map] at hr
      obtain ⟨s,_,rfl⟩ := hr
      simp only [strR,List.mem_singleton] at hc; subst hc; exact .str s
   · exact .int _ _
   · exact .str _
   · exact F.wf_rows f) rfl (fun k hk => by simp [Nsg0] at hk; subst hk; exact ⟨_,rfl⟩) (names_run f l h) rfl
 have hr : ∀ l : List (List UInt8),(l.map strR).map (List.map AV.d) = l.map fun s => [AV.d (.str s)] := fun l => by
  simp [strR,Function.comp_def]
 simpa [Nsg0,hIn,SB.inst,SB.rows,SA.val,strsD,D.rows,hr,blkS,rowB,SV.instL,SV.inst,lnL,lnOf,getB,SB.len] using hcc
theorem names_nil (f : F) (h : f.size < 10000000000) :
 CC Tryz.prog G 158 [] [.nils,.agg [.d (.int .i64 f.op),.d (.str f.name),.d (.sl (F.encs f.args))]] [blkS false (F.atomL f)] (.own 0 (F.atomL f).length 0 (F.atomL f).length) := by
 obtain ⟨hb,hc⟩ := names_own (G := G) f [] (by simp; omega)
 refine ⟨hb,fun w C ρ vs hR hG hv => ?_⟩
 obtain ⟨hl,hv⟩ := hv
 obtain ⟨v0,v1,rfl⟩ : ∃ v0 v1,vs = [v0,v1] := by
  match vs,hl with
  | [v0,v1],_ => exact ⟨v0,v1,rfl⟩
 have h0 := hv 0 (by simp) (by simp)
 have h1 := hv 1 (by simp) (by simp)
 simp only [List.getElem_cons_zero,List.getElem_cons_succ] at h0 h1
 have hv0 : v0 = .slice none 0 0 := by cases h0; rfl
 subst hv0
 have hH : ∀ b,(hOf [blkS false ([] : List (List UInt8))] b).isSome = true → b = 0 := by
  intro b hb
  match b,hb with
  | 0,_ => rfl
  | b + 1,hb => simp [hOf] at hb
 refine (hc w C (fun _ => none) [.slice none 0 0,v1] ⟨fun b blk hb => ?_,fun b b' r s s' _ _ _ h => by simp at h,hR.com⟩ hG ⟨rfl,fun i hi hi' => ?_⟩).mono fun e w' h => ?_
 · obtain rfl := hH b (by rw [hb]; rfl)
   obtain rfl : blkS false ([] : List (List UInt8)) = blk := by simpa [hOf] using hb
   exact ⟨rfl,rfl⟩
 · match i,hi with
   | 0,_ => exact .own 0 0 0 0 _ (blkS false []) rfl (Nat.le_refl _) rfl fun _ => .inr ⟨rfl,rfl,rfl,rfl⟩
   | 1,_ =>
    simp only [List.getElem_cons_succ,List.getElem_cons_zero]
    cases h1 with
    | agg _ vs hl2 h12 h3 =>
     refine .agg _ vs hl2 h12 fun i hi hi' => ?_
     have := h3 i hi hi'
     match i,hi with
     | 0,_ => exact .d _ _ (repA_d this)
     | 1,_ => exact .d _ _ (repA_d this)
     | 2,_ => exact .d _ _ (repA_d this)
 · obtain ⟨v,C',ρ',rfl,hR',hE,hr⟩ := h
   rw [List.nil_append] at hR' hE hr
   refine ⟨v,C',ρ',rfl,hR',⟨hE.com,hE.cell,fun b blk hb => by simp [hOf] at hb,hE.os,hE.tape,hE.output,hE.size,fun r h1 h2 => hE.same r h1 fun ⟨b,s,_,hb⟩ => by simp at hb,fun r h => ?_,fun r o h => ?_⟩,hr⟩
   · rcases hE.rows r h with ⟨b,s,_,hb⟩ | h
     · simp at hb
     · exact .inr h
   · rcases hE.grow r o h with h | ⟨b,s,_,hb⟩ | h
     · exact .inl h
     · simp at hb
     · exact .inr (.inr h)
theorem sort_body : Body Tryz.prog 159 := ⟨Tryz.f159,Tryz.func159,by kernel_rfl,by kernel_rfl⟩
theorem compact_body : Body Tryz.prog 160 := ⟨Tryz.f160,Tryz.func160,by kernel_rfl,by kernel_rfl⟩
theorem sort_cc (l : List (List UInt8)) (hl : l.length < 4611686018427387904) : CC Tryz.prog G 159 [blkS false l] [.own 0 l.length 0 l.length] [blkS false (sortL l)] (.tup []) :=
 turn_cc (enc := encStr) (dE := D.str) (ty := 9) (g := sortL) encS_ok sort_body sortL_len (fun blk cap l w h1 h2 h3 => Tryz.slices_Sort_string blk 0 cap l w h1 h2 h3) (fun p cap w => Tryz.slices_Sort_string_none p cap w) l hl
theorem compact_len (l : List (List UInt8)) : (Lib.compact l).length ≤ l.length := by
 unfold Lib.compact Lib.compactUpTo
 rw [List.length_map]
 refine Nat.le_trans (List.length_filter_le _ _) (by simp)
def tailS (l : List (List UInt8)) : List (List UInt8) := Lib.compact l ++ List.replicate (l.length - (Lib.compact l).length) []
theorem compact_cc (l : List (List UInt8)) (n : Nat) (hn : l.length = n) (hl : n < 4611686018427387904) : CC Tryz.prog G 160 [blkS false l] [.own 0 n 0 n] [blkS true (tailS l)] (.d (strsD (Lib.compact l))) := by
 subst hn
 have h := front_cc (G := G) (enc := encStr) (dE := D.str) (ty := 9) encS_ok compact_body (g := tailS) (k := fun l => (Lib.compact l).length)
  (fun l => by have := compact_len l; simp [tailS]; omega) (fun l => compact_len l) (fun blk cap l w h1 h2 h3 => Tryz.slices_Compact_string blk 0 cap l w h1 h2 h3) (fun p cap w => Tryz.slices_Compact_string_empty p cap w) l hl
 have ht : (tailS l).take (Lib.compact l).length = Lib.compact l := by simp [tailS]
 simp only [ht] at h
 exact h
theorem blkS_ren (fz : Bool) (l : List (List UInt8)) (m : Nat → Nat) : (blkS fz l).ren m = blkS fz l := by
 simp [blkS,rowB,Blk.ren,AV.ren,Function.comp_def]
theorem blkS_inK (fz : Bool) (l : List (List UInt8)) (k : Nat) : (blkS fz l).rows.all (·.all (AV.inK k)) = true := by
 simp [blkS,rowB,AV.inK]
theorem outHs_one (m : Nat → Nat) (b : Blk) : outHs m [b] = [(m 0,b.ren m)] := rfl
theorem atoms_cc (f : F) (hs : f.size < 10000000000) : CC Tryz.prog G 120 [] [.agg [.d (.int .i64 f.op),.d (.str f.name),.d (.sl (F.encs f.args))]] [] (.d (strsD (canon (F.atomL f)))) := by
 have hlen := F.atomL_len f
 have h1 := names_nil (G := G) f hs
 have h2 := sort_cc (G := G) (F.atomL f) (by omega)
 have h3 := compact_cc (G := G) (sortL (F.atomL f)) (F.atomL f).length (sortL_len _) (by omega)
 generalize F.atomL f = l at h1 h2 h3
 refine CC.go Tryz.func120 rfl rfl Tryz.ntmps120 (k0 := 0) rfl (Nat.le_of_ble_eq_true rfl) (by rfl) (by rfl) ?_
 refine awp_seq ?_
 refine awp_region (by simp only [slimL,slim1,List.map_cons,List.map_nil,List.getElem?_toArray,List.getElem?_cons_succ,List.getElem?_cons_zero,Option.bind_some]; rfl) ?_
 refine regS_go 2 (by simp only [go_sem]; rfl) ?_
 refine regS_nil ?_
 refine seqK_normal ?_
 refine awp_seq ?_
 refine awp_region (by simp only [slimL,slim1,List.map_cons,List.map_nil,List.getElem?_toArray,List.getElem?_cons_succ,List.getElem?_cons_zero,Option.bind_some]; rfl) ?_
 refine regS_go 1 (by simp only [go_sem]; rfl) ?_
 refine regS_call rfl (by simp only [go_sem]) rfl (by simp only [go_sem]; rfl) (by simp only [go_sem]; rfl) ?_
 refine callK_m [] h1 rfl rfl rfl (Nat.le_of_ble_eq_true rfl) (Nat.le_of_ble_eq_true rfl) (by simp only [go_sem]; decide) rfl rfl rfl rfl (by rw [outHs_one,blkS_ren]) ?_
 refine regS_go 1 (by simp only [go_sem]; rfl) ?_
 refine regS_nil ?_
 refine seqK_normal ?_
 refine awp_seq ?_
 refine awp_region (by simp only [slimL,slim1,List.map_cons,List.map_nil,List.getElem?_toArray,List.getElem?_cons_succ,List.getElem?_cons_zero,Option.bind_some]; rfl) ?_
 refine regS_go 1 (by simp only [go_sem]; rfl) ?_
 refine regS_call rfl (by simp only [go_sem]) rfl (by simp only [go_sem]; rfl) (by simp only [go_sem]; rfl) ?_
 refine callK_m [1] h2 rfl rfl rfl (Nat.le_of_ble_eq_true rfl) (Nat.le_of_ble_eq_true rfl) (by simp only [go_sem]; decide) (by simp only [List.map_cons,List.map_nil,blkS_ren]; rfl) rfl (by simp only [List.all_cons,List.all_nil,blkS_inK,Bool.and_self]) rfl (by rw [outHs_one,blkS_ren]) ?_
 refine regS_go 0 (by simp only [go_sem]; rfl) ?_
 refine regS_nil ?_
 refine seqK_normal ?_
 refine awp_seq ?_
 refine awp_region (by simp only [slimL,slim1,List.map_cons,List.map_nil,List.getElem?_toArray,List.getElem?_cons_succ,List.getElem?_cons_zero,Option.bind_some]; rfl) ?_
 refine regS_go 1 (by simp only [go_sem]; rfl) ?_
 refine regS_call rfl (by simp only [go_sem]) rfl (by simp only [go_sem]; rfl) (by simp only [go_sem]; rfl) ?_
 refine callK_m [1] h3 rfl rfl rfl (Nat.le_of_ble_eq_true rfl) (Nat.le_of_ble_eq_true rfl) (by simp only [go_sem]; decide) (by simp only [List.map_cons,List.map_nil,blkS_ren]; rfl) rfl (by simp only [List.all_cons,List.all_nil,blkS_inK,Bool.and_self]) rfl (by rw [outHs_one,blkS_ren]) ?_
 refine regS_go 1 (by simp only [go_sem]; rfl) ?_
 refine regS_nil ?_
 refine seqK_normal ?_
 refine awp_ret ?_
 refine end_d (.inr rfl) (rs := [.tmp 2]) rfl (by simp only [go_sem]; rfl) ?_
 exact ⟨rfl,rfl⟩
def atomsE : PF := fun a => match F.decN 1000 a with
 | some f => if f.size < 10000000000 then some [strsD (canon (F.atomL f))] else none
 | none => none
theorem atomsE_some {a o : List D} (h : atomsE a = some o) : ∃ f : F,a = f.enc ∧ f.size < 10000000000 ∧ o = [strsD (canon (F.atomL f))] := by
 unfold atomsE at h
 split at h
 · rename_i f hf
   split at h
   · rename_i hs
     simp only [Option.some.injEq] at h
     exact ⟨f,(F.decN_ok _ _ _ hf).symm,hs,h.symm⟩
   · simp at h
 · simp at h
theorem strsD_wf (l : List (List UInt8)) : D.WF (strsD l) := .sl _ fun r hr c hc => by
 simp only [List.mem_map] at hr
 obtain ⟨s,_,rfl⟩ := hr
 simp only [strR,List.mem_singleton] at hc; subst hc; exact .str s
theorem atomsE_wf {a o : List D} (h : atomsE a = some o) : EWF o := by
 obtain ⟨f,_,_,rfl⟩ := atomsE_some h
 intro d hd
 simp only [List.mem_cons,List.not_mem_nil,or_false] at hd
 subst hd
 exact strsD_wf _
def atsg : Sig := ⟨120,3,[],[(.agg [(.atm (.v 0)),(.atm (.v 1)),(.atm (.v 2))])],1,[],(.atm (.v 0)),true,[]⟩
theorem atomsE_sig : SigOK Tryz.prog G atomsE atsg := by
 intro ins outs hwf hl hsl hr hno
 obtain ⟨f,rfl,hs,rfl⟩ := atomsE_some hr
 refine ⟨atomsE_wf hr,?_⟩
 have := atoms_cc (G := G) f hs
 rw [F.enc_eq]
 exact ⟨this,fun i hi => by simp [atsg,inL] at hi⟩
theorem atomsE_run (f : F) (hs : f.size < 10000000000) (hd : f.depth < 1000) : atomsE (rowF f) = some [strsD (canon (F.atomL f))] := by
 unfold atomsE
 rw [show rowF f = f.enc from (F.enc_eq f).symm,F.decN_enc f _ hd]
 simp only [hs,if_true]
end Go.Proofs.YtojkhlijbpmgpaaGreat
