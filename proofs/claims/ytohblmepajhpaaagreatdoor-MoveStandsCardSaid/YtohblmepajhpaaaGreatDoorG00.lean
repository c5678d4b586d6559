/- Contracts of functions that the law reaches; plain laws. -/
import Derived.Test.YtohblmepajhpaaaGreatDoorRows
import Derived.WalkKit
import Derived.WalkSpells
import Derived.WalkLawsBesides
import Derived.BigQuiet
import Derived.Deep.QuietTactic
import Derived.Deep.RegionHeld3
import Derived.Lib.Hide
import Derived.Lib.SlicesS
import Derived.Maps.AppendAt
import Derived.Deep.AppendLies
import Derived.ProofKit
import Derived.SizedLaws
import Derived.SliceStrings
set_option maxRecDepth 100000
namespace Go.Proofs.YtohblmepajhpaaaGreatDoor
open Go.Proofs.Tryz (prog)
open Go.RowKit
variable {K:Value->Prop}{Q':Exit->Act->World->Prop}{x' y':Value}{z':Option Nat}{b':Bool}{ops:Array Oper}
theorem O{p:Prop}(h:p:=by omega):p:=h
theorem T{p:Prop}(h:p:=by kernel_rfl):p:=h
theorem ω{p:Prop}(h:p:=by omega):p:=h
theorem κ{p:Prop}(h:p:=by kernel_rfl):p:=h
abbrev aa:=@Nat.le_refl
abbrev ab:=@Lib.cell_of_heap
abbrev ac:=@List.getElem?_eq_getElem
abbrev ae:=@List.length_append
abbrev ag:=@Nat.lt_of_lt_of_le
abbrev ah:=@if_neg
abbrev ai:=@List.take_of_length_le
abbrev aj:=@List.getElem?_eq_some_iff
abbrev ak:=@decide_eq_false
abbrev al:=@Nat.zero_le
abbrev am:=@List.mem_cons_of_mem
abbrev ao:=@if_pos
abbrev aq:=@decide_eq_true
abbrev au:=@heap_alloc_new
abbrev aw:=@Nat.le_trans
abbrev ax:=@List.mem_cons
abbrev ay:=@Bool.and_eq_true
abbrev az:=@List.length_map
abbrev aA:=@World.ownsRow_nil
abbrev aB:=@List.take_add_one
abbrev aC:=@List.mem_of_getElem?
abbrev aD:=@List.length_cons
abbrev aE:=@List.length_take
abbrev aF:=@results_none
abbrev aG:=@List.getElem?_map
abbrev aH:=@List.append_assoc
abbrev aI:=@bodyPost_end
abbrev aJ:=@List.flatMap_append
abbrev aK:=@ownsRow_setCell_other
abbrev aL:=@List.flatMap_cons
abbrev aM:=@List.map_append
abbrev aN:=@List.length_drop
abbrev aO:=@Nat.zero_add
abbrev aP:=@of_decide_eq_true
abbrev aQ:=@List.mem_append
abbrev aR:=@List.append_nil
abbrev aS:=@List.mem_singleton
abbrev aT:=@List.nil_append
abbrev aU:=@Array.getElem?_eq_some_iff
abbrev aV:=@List.cons_append
abbrev aW:=@beq_self_eq_true
abbrev aX:=@List.mem_filter
abbrev aY:=@List.take_append_drop
abbrev aZ:=@List.getElem?_append_left
abbrev a6:=@List.getElem?_append_right
abbrev a7:=@beq_eq_false_iff_ne
abbrev a8:=@heap_setCell_same
abbrev bd:=@cell_of_row
abbrev be:=@Option.map_eq_some_iff
abbrev bf:=@List.length_singleton
abbrev bg:=@Array.length_toList
abbrev bh:=@decide_eq_true_eq
abbrev bi:=@List.take_zero
abbrev bj:=@List.length_eq_zero_iff
abbrev bn:=@List.getElem_of_mem
abbrev bo:=@Nat.lt_or_ge
abbrev bp:=@List.drop_eq_getElem_cons
abbrev br:=@Array.getElem?_eq_none
abbrev bu:=@List.mem_cons_self
abbrev bw:=@Tryz.underlying3
abbrev bz:=@bodyPost_ret
abbrev bA:=@Bool.false_eq_true
abbrev bB:=@setRow_heap
abbrev bC:=@List.eq_nil_of_length_eq_zero
abbrev bD:=@List.length_filter_le
abbrev bE:=@List.getElem?_cons_succ
abbrev bF:=@List.all_eq_true
abbrev bG:=@Tryz.underlying9
abbrev bH:=@List.getElem?_eq_none
abbrev bI:=@Result.andThen_ok
abbrev bJ:=@wpList_store_row
abbrev bK:=@run_underlying
abbrev bL:=@List.mem_range
abbrev bM:=@List.ext_getElem?
abbrev bN:=@Nat.not_lt_zero
abbrev bO:=@List.getElem?_drop
abbrev bP:=@Nat.min_eq_left
abbrev bQ:=@Nat.add_le_add_iff_right
abbrev bR:=@List.foldl_cons
abbrev bS:=@Tryz.zeroValue3
abbrev bT:=@Sem.run_bind
abbrev bU:=@List.pairwise_iff_getElem
abbrev bV:=@Nat.le_of_lt
abbrev bW:=@Nat.mul_one
abbrev bX:=@List.filter_append
abbrev bZ:=@List.any_eq_true
abbrev b8:=@Option.isSome_iff_exists
abbrev cd:=@Nat.mul_le_mul_right
abbrev ce:=@List.mem_map
abbrev cg:=@Tryz.underlying4
abbrev ci:=@Tryz.zeroValue4
abbrev cj:=@of_decide_eq_false
abbrev cr:=@Array.getElem?_eq_getElem
abbrev cu:=@Nat.testBit_or
abbrev cw:=@World.cell?_of_block
abbrev cz:=@Bool.not_eq_true'
abbrev cB:=@List.mem_filterMap
abbrev cC:=@List.pairwise_cons
abbrev cE:=@Sem.run_pure
abbrev cF:=@Nat.testBit_two_pow
abbrev cG:=@Nat.lt_irrefl
abbrev cH:=@List.mem_of_find?_eq_some
abbrev cI:=@List.drop_of_length_le
abbrev cJ:=@List.foldl_append
abbrev cK:=@List.getElem?_set_self
abbrev cL:=@List.find?_eq_none
abbrev cM:=@List.getElem_range
abbrev cN:=@ByteArray.size_append
abbrev cO:=@Tryz.zeroValue9
abbrev cR:=@List.ext_getElem
abbrev cS:=@List.getElem_map
abbrev cT:=@List.pairwise_append
abbrev cU:=@List.take_append_of_le_length
abbrev cV:=@Nat.eq_zero_or_pos
abbrev cW:=@World.grownBy.refl
abbrev cZ:=@Option.toList_some
abbrev da:=@Option.isSome_some
abbrev db:=@Bool.true_and
abbrev dc:=@List.map_cons
abbrev dd:=@List.getElem?_take_of_lt
abbrev de:=@Nat.lt_succ_self
abbrev dg:=@List.filter_eq_self
abbrev dh:=@Nat.le_succ
abbrev dl:=@Array.getElem?_modify
abbrev dm:=@List.takeWhile_append_dropWhile
abbrev dn:=@Bool.or_eq_false_iff
abbrev dp:=@Maps.atKey_put_other
abbrev dq:=@Region.noSelect_spec
abbrev dr:=@Option.isSome_none
abbrev dt:=@Bool.or_eq_true
abbrev du:=@List.length_set
abbrev dv:=@Nat.add_zero
abbrev dw:=@Maps.atKey_put_same
abbrev dx:=@Tryz.underlying48
abbrev dy:=@Option.some.injEq
abbrev dA:=@setRow_other
abbrev dB:=@World.ownsMap_made
abbrev dC:=@Maps.has_put_other
abbrev dD:=@if_false
abbrev dE:=@Tryz.underlying5
abbrev dF:=@List.mem_flatMap
abbrev dG:=@List.filter_cons
abbrev dH:=@Lib.byteCells_length
abbrev dI:=@Nat.add_assoc
abbrev dJ:=@List.filter_congr
abbrev dK:=@List.map_nil
abbrev dL:=@Int.toNat_natCast
abbrev dM:=@List.all_eq_false
abbrev dN:=@Tryz.sizeOf3
abbrev dP:=@Tryz.sizeOf4
abbrev dQ:=@Maps.has_put_same
abbrev dR:=@MapKept.run_getObj_map
abbrev dS:=@MapKept.run_setObj_map
abbrev dT:=@List.filterMap_cons
abbrev dU:=@List.length_nil
abbrev dW:=@Nat.eq_of_beq_eq_true
abbrev dX:=@Array.toList_inj
abbrev dY:=@Tryz.underlying0
abbrev dZ:=@Region.free_spec
abbrev d7:=@List.mem_nil_iff
abbrev d8:=@Option.getD_some
abbrev d9:=@Tryz.sizeOf9
abbrev ed:=@Nat.zero_mul
abbrev ee:=@Tryz.isAgg3
abbrev ef:=@Tryz.isAgg4
abbrev eh:=@List.mem_of_mem_drop
abbrev ei:=@List.take_take
abbrev ej:=@mem_ready
abbrev el:=@List.flatten_cons
abbrev eo:=@decide_eq_false_iff_not
abbrev ez:=@Tryz.zeroValue0
abbrev eC:=@Tryz.zeroValue5
abbrev eD:=@List.nodup_cons
abbrev eH:=@Int.toNat_of_nonneg
abbrev eI:=@World.grownBy_alloc
abbrev eJ:=@List.filter_eq_nil_iff
abbrev eL:=@Tryz.isAgg9
abbrev eO:=@List.map_drop
abbrev eP:=@List.drop_length
abbrev eQ:=@Nat.succ_le_succ
abbrev eR:=@List.lt_irrefl
abbrev eS:=@Tryz.underlying135
abbrev eT:=@Bool.false_and
abbrev eX:=@World.cell?_setCell_other
abbrev eY:=@List.range_succ
abbrev eZ:=@Nat.lt_trichotomy
abbrev fd:=@Tryz.zeroValue135
abbrev fe:=@Nat.succ_mul
abbrev fg:=@List.getElem_take
abbrev fh:=@Nat.sub_zero
abbrev fi:=@World.ownsRow.stored
abbrev fj:=@if_true
abbrev fu:=@List.eq_nil_iff_forall_not_mem
abbrev fw:=@List.getElem_mem
abbrev fB:=@List.drop_zero
abbrev fC:=@List.pairwise_singleton
abbrev fD:=@List.getElem_set
abbrev fE:=@IntKind.wrap_u64
abbrev fF:=@List.drop_append_of_le_length
abbrev fG:=@Classical.epsilon_spec
abbrev fH:=@List.getElem?_take
abbrev fI:=@Tryz.sizeOf0
abbrev fJ:=@Tryz.sizeOf5
abbrev fK:=@Tryz.underlying257
abbrev fL:=@Tryz.underlying102
abbrev fM:=@Tryz.underlying241
abbrev fN:=@List.getElem_replicate
abbrev fO:=@Nat.mul_comm
abbrev fP:=@Nat.add_sub_cancel
abbrev fQ:=@Tryz.underlying313
abbrev fR:=@getElem!_pos
abbrev fS:=@List.drop_eq_nil_of_le
abbrev fT:=@Tryz.underlying143
abbrev fU:=@List.find?_some
abbrev fV:=@Option.some.inj
abbrev fW:=@Bool.false_or
abbrev fX:=@Bool.or_false
abbrev fY:=@Prod.mk.injEq
abbrev fZ:=@ByteArray.data_append
abbrev gh:=@List.filterMap_append
abbrev gk:=@List.getElem?_reverse
abbrev gn:=@Array.getElem?_toList
abbrev go:=@List.mem_append_right
abbrev gu:=@Tryz.underlying28
abbrev gv:=@Tryz.zeroValue257
abbrev gw:=@Maps.Keyed.of_law
abbrev gz:=@List.nodup_append
abbrev gB:=@List.size_toArray
abbrev gC:=@Tryz.underlying32
abbrev gE:=@List.length_filter_lt_length_iff_exists
abbrev gF:=@beq_iff_eq
abbrev gG:=@Int.tdiv_eq_ediv_of_nonneg
abbrev gH:=@Int.tmod_eq_emod_of_nonneg
abbrev gI:=@Bool.and_false
abbrev gJ:=@Tryz.isAgg0
abbrev gK:=@Tryz.isAgg5
abbrev gM:=@Tryz.sizeOf135
abbrev gN:=@wpList_mapUpdate_own
abbrev gO:=@ready_mono
abbrev gP:=@List.reverse_reverse
abbrev gQ:=@Array.getElem_toList
abbrev gS:=@List.getElem?_set_ne
abbrev gT:=@List.map_toArray
abbrev gU:=@Tryz.zeroValue28
abbrev gV:=@List.nil_sublist
abbrev gW:=@Nat.ne_of_lt
abbrev gX:=@Nat.ne_of_gt
abbrev gY:=@Option.getD_none
abbrev gZ:=@Nat.le_of_eq
abbrev g6:=@Array.toList_append
abbrev g7:=@List.length_reverse
abbrev g9:=@List.getElem?_range
abbrev ia:=@List.flatten_append
abbrev ib:=@Lib.OthersKept.refl
abbrev ic:=@Tryz.isAgg135
abbrev ie:=@Array.setIfInBounds_comm
abbrev ig:=@List.map_take
abbrev ii:=@Bool.eq_iff_iff
abbrev ij:=@List.count_eq_zero
abbrev ik:=@World.ownsRow_made
abbrev il:=@heap_setCell_other
abbrev io:=@Int.emod_lt_of_pos
abbrev ip:=@Nat.lt_of_le_of_lt
abbrev iq:=@List.getElem?_cons_zero
abbrev ir:=@Nat.testBit_mod_two_pow
abbrev it:=@wp_region_noPanic
abbrev iu:=@Tryz.sizeOf257
abbrev iw:=@or_false
abbrev iy:=@Tryz.underlying29
abbrev iz:=@Tryz.underlying36
abbrev iA:=@List.map_map
abbrev iB:=@Nat.testBit_shiftRight
abbrev iC:=@Bool.not_false
abbrev iD:=@Lib.run_eql_slice_nil
abbrev iE:=@List.singleton_append
abbrev iF:=@Calls.mono
abbrev iG:=@decide_eq_decide
abbrev iH:=@List.take_append
abbrev iI:=@Nat.le_add_right
abbrev iJ:=@Tryz.sizeOf28
abbrev iK:=@Tryz.isAgg257
abbrev iL:=@deep_law_laid
abbrev iM:=@Nat.add_mul
abbrev iN:=@List.getLast?_append
abbrev iO:=@List.mem_append_left
abbrev iP:=@Nat.testBit_and
abbrev iQ:=@Array.getElem?_setIfInBounds
abbrev iR:=@UInt8.toNat.inj
abbrev iS:=@List.all_append
abbrev iT:=@List.find?_cons
abbrev iU:=@List.any_append
abbrev iV:=@Int.emod_nonneg
abbrev iW:=@List.take_succ_cons
abbrev iX:=@List.takeWhile_cons
abbrev iY:=@List.dropWhile_cons
abbrev iZ:=@Nat.testBit_two_pow_sub_one
abbrev i6:=@Tryz.isAgg28
abbrev i7:=@Bool.or_true
abbrev ja:=@Bool.true_or
abbrev jb:=@List.map_set
abbrev jc:=@NoPanic.normal
abbrev jd:=@run_sliceAt_string
abbrev je:=@Tryz.underlying300
abbrev jf:=@Tryz.underlying332
abbrev jg:=@Tryz.underlying334
abbrev jh:=@Tryz.underlying335
abbrev ji:=@Tryz.underlying336
abbrev jj:=@Tryz.underlying288
abbrev jk:=@Tryz.underlying329
abbrev jl:=@Array.getElem?_append_left
abbrev jm:=@Array.extract_size
abbrev jn:=@List.nodup_iff_pairwise_ne
abbrev jo:=@List.findSome?_eq_none_iff
abbrev jp:=@List.getElem?_zip_eq_some
abbrev jq:=@wpAnyH_take
abbrev jr:=@run_sliceAt_slice
abbrev jt:=@List.getElem?_set
abbrev ju:=@Tryz.underlying21
abbrev jw:=@Tryz.zeroValue300
abbrev jx:=@Tryz.zeroValue334
abbrev jy:=@Tryz.zeroValue335
abbrev jz:=@Tryz.zeroValue336
abbrev jA:=@List.find?_append
abbrev jB:=@getD_set_ne
abbrev jC:=@run_storeCells_at
abbrev jD:=@Tryz.zeroValue166
abbrev jE:=@Tryz.underlying22
abbrev jF:=@Tryz.underlying23
abbrev jG:=@Nat.one_mul
abbrev jH:=@Decidable.not_not
abbrev jI:=@List.all_cons
abbrev jJ:=@Tryz.ntmps127
abbrev jK:=@Tryz.ntmps128
abbrev jL:=@Nat.add_lt_add_iff_right
abbrev jM:=@Bool.and_self
abbrev jN:=@Bool.not_true
abbrev jO:=@Nat.mul_assoc
abbrev jP:=@Lib.bytes_beq_false_iff
abbrev jQ:=@Option.bind_eq_some_iff
abbrev jR:=@List.drop_append
abbrev jS:=@Nat.add_sub_cancel_left
abbrev jT:=@Tryz.zeroValue21
abbrev jU:=@List.flatMap_map
abbrev jV:=@List.lookup_cons
abbrev jW:=@Tryz.func127
abbrev jX:=@Tryz.ntmps94
abbrev jY:=@Tryz.ntmps50
abbrev jZ:=@Nat.add_comm
abbrev j5:=@Tryz.func128
abbrev j6:=@List.sublist_cons_self
abbrev j7:=@Nat.mod_lt
abbrev j8:=@List.getElem_cons_succ
abbrev j9:=@Tryz.ntmps80
abbrev ka:=@DataW.weights_mem_each
abbrev kb:=@Option.map_some
abbrev kc:=@Nat.div_add_mod
abbrev ke:=@Int.natCast_mul
abbrev kf:=@List.cons_lt_cons_iff
abbrev kg:=@Nat.eq_of_testBit_eq
abbrev kh:=@List.count_cons_self
abbrev ki:=@Tryz.sizeOf300
abbrev kj:=@Tryz.sizeOf332
abbrev km:=@Tryz.sizeOf334
abbrev kn:=@Tryz.sizeOf335
abbrev ko:=@Tryz.sizeOf336
abbrev kq:=@List.drop_take
abbrev kr:=@Tryz.func94
abbrev kt:=@run_storeCells_cells
abbrev ku:=@Tryz.func50
abbrev kw:=@Bool.not_or
abbrev kx:=@List.mem_of_mem_take
abbrev ky:=@Nat.div_lt_of_lt_mul
abbrev kz:=@toList_madeCells_one
abbrev kA:=@Tryz.func80
abbrev kB:=@List.getElem?_of_mem
abbrev kC:=@wp_loop_rounds
abbrev kD:=@Option.none_or
abbrev kE:=@List.not_le
abbrev kF:=@Ne.symm
abbrev kG:=@wpOp_mono
abbrev kH:=@List.filter_sublist
abbrev kI:=@List.length_take_le
abbrev kJ:=@Array.getElem?_push
abbrev kK:=@List.lt_trans
abbrev kL:=@Tryz.sizeOf21
abbrev kM:=@Tryz.isAgg300
abbrev kN:=@Tryz.isAgg332
abbrev kO:=@Tryz.isAgg334
abbrev kP:=@Tryz.isAgg335
abbrev kQ:=@Tryz.isAgg336
abbrev kR:=@Tryz.ntmps104
abbrev kS:=@Tryz.ntmps188
abbrev kT:=@Tryz.ntmps179
abbrev kU:=@Tryz.ntmps109
abbrev kV:=@Tryz.ntmps200
abbrev kW:=@wpAnyH_all
abbrev kX:=@Array.any_eq_true'
abbrev kY:=@Nat.ble_eq
abbrev kZ:=@List.count_pos_iff
abbrev k6:=@Tryz.underlying153
abbrev k8:=@List.append_of_mem
abbrev k9:=@Tryz.underlying243
abbrev lc:=@Tryz.underlying269
abbrev ld:=@Tryz.underlying273
abbrev lf:=@Tryz.underlying271
abbrev lg:=@Tryz.underlying234
abbrev lh:=@List.filter_filter
abbrev lk:=@Tryz.underlying228
abbrev ll:=@Tryz.underlying250
abbrev lm:=@Tryz.underlying251
abbrev lp:=@Tryz.underlying123
abbrev lq:=@Tryz.underlying166
abbrev lr:=@Tryz.underlying289
abbrev lu:=@Tryz.underlying293
abbrev lw:=@Tryz.underlying315
abbrev lx:=@Tryz.underlying316
abbrev ly:=@decide_eq_true_iff
abbrev lA:=@Array.ext_getElem?
abbrev lB:=@Tryz.underlying211
abbrev lC:=@Tryz.underlying212
abbrev lD:=@Nat.lt_or_eq_of_le
abbrev lE:=@Tryz.underlying122
abbrev lF:=@List.map_singleton
abbrev lG:=@List.count_append
abbrev lH:=@Tryz.isAgg21
abbrev lI:=@Tryz.func104
abbrev lJ:=@Tryz.ntmps51
abbrev lK:=@Nat.sub_self
abbrev lL:=@Tryz.ntmps52
abbrev lM:=@Bool.not_not
abbrev lN:=@Tryz.func188
abbrev lO:=@Tryz.func179
abbrev lP:=@List.any_eq_false
abbrev lQ:=@Nat.min_self
abbrev lR:=@Tryz.zeroValue102
abbrev lS:=@Tryz.zeroValue241
abbrev lT:=@Tryz.zeroValue243
abbrev lU:=@Tryz.zeroValue288
abbrev lV:=@List.reverse_take
abbrev lW:=@Lib.ownsRowF_kind
abbrev lX:=@Value.slice.injEq
abbrev lY:=@Tryz.func109
abbrev lZ:=@Tryz.ntmps79
abbrev l8:=@Tryz.ntmps40
abbrev l9:=@Tryz.zeroValue250
abbrev ma:=@Tryz.zeroValue251
abbrev md:=@Tryz.zeroValue123
abbrev me:=@Tryz.zeroValue289
abbrev mf:=@Tryz.zeroValue293
abbrev mg:=@Tryz.zeroValue315
abbrev mh:=@Tryz.zeroValue316
abbrev mi:=@Tryz.func200
abbrev mj:=@Tryz.ntmps37
abbrev mq:=@Tryz.ntmps92
abbrev mt:=@Tryz.params3
abbrev mu:=@Option.bind_some
abbrev mw:=@Bool.not_eq_true
abbrev mx:=@List.flatMap_def
abbrev my:=@List.le_antisymm
abbrev mz:=@List.range'_succ
abbrev mC:=@List.sublist_nil
abbrev mD:=@Nat.div_eq_of_lt
abbrev mF:=@Nat.mod_eq_of_lt
abbrev mG:=@wpList_make_full
abbrev mH:=@List.flatten_nil
abbrev mI:=@List.not_mem_nil
abbrev mJ:=@Nat.zero_testBit
abbrev mK:=@Nat.le_of_not_lt
abbrev mL:=@Tryz.zeroValue48
abbrev mM:=@Nat.lt_of_not_le
abbrev mN:=@Int.le_refl
abbrev mP:=@List.not_lt
abbrev mQ:=@Tryz.func51
abbrev mR:=@Tryz.func52
abbrev mS:=@Tryz.func79
abbrev mU:=@Tryz.func40
abbrev mV:=@rounds_succ
abbrev mW:=@Tryz.func37
abbrev mX:=@Tryz.func92
abbrev mY:=@run_loadVar_row
abbrev mZ:=@Nat.le_antisymm
abbrev m9:=@Int.natCast_pow
abbrev nc:=@Int.natCast_add
abbrev ng:=@wpOp_putIf
abbrev nh:=@Nat.not_lt
abbrev ni:=@Tryz.func3
def quietKind:Op->Bool
 | .move _ | .assign _ | .pick .. | .binOp .. | .unOp .. | .fieldAddr .. | .field .. | .indexAddr .. | .load .. | .extract .. | .slice .. | .convert .. | .nilCheck _=>true
 | .call { callee:=.builtin .len,.. } | .call { callee:=.builtin .cap,.. } | .call { callee:=.builtin .min,.. } | .call { callee:=.builtin .max,.. }=>true
 | _=>false
def planOk (ops:Array Oper):List (Bool×Nat)->Array Bool->Bool
 | [],listed=>(Region.ready .any ops listed).isEmpty
 | (true,i)::r,listed=>Region.free .any ops listed i && (Region.ready .any ops listed).contains i && planOk ops r (listed.setIfInBounds i true)
 | (false,i)::r,listed=>Region.ready .any ops listed == [i] && planOk ops r (listed.setIfInBounds i true)
def mkPlan (ops:Array Oper):Nat->Array Bool->List (Bool×Nat)
 | 0,_=>[]
 | n+1,listed=>
  let rs:=Region.ready .any ops listed
  match rs.find? fun i=>((ops[i]?).map fun o=>quietKind o.op).getD false && Region.free .any ops listed i with
  | some i=>(true,i)::mkPlan ops n (listed.setIfInBounds i true)
  | none=>match rs with
   | i::_=>(false,i)::mkPlan ops n (listed.setIfInBounds i true)
   | []=>[]
section
variable {P:Program} {ops:Array Oper} {S:World->Prop} {Q:Act->World->Prop}
def QYields (P:Program)(S:World->Prop)(o:Op)(ty:TypeId)(a:Act)(v:Value):Prop:=
 ∀(w:World) (d:Option Tmp) (p:String) (af:Array Edge) (g:Option (Nat×Bool)),S w->(execOp a.eval ⟨d,o,ty,p,af,g⟩).run P w=.ok (.value v) w
def wl (P:Program)(ops:Array Oper)(S:World->Prop)(Q:Act->World->Prop):List (Bool×Nat)->Act->World->Prop
 | [],a,w=>Q a w
 | (q,i)::r,a,w=>
  match ops[i]? with
  | none=>False
  | some o=>
   if Region.wanted o (yielded ops a.tmps) then
    (if q then ∃v,QYields P S o.op o.type a v/\wl P ops S Q r (a.put o.dst v) w
     else o.wp P a w (fun a' w'=>S w'/\wl P ops S Q r a' w') (fun _ _ _=>False))
   else wl P ops S Q r (a.put o.dst undef) w
theorem aFr {o:Oper}{a:Act}{w:World}{K f:Act->World->Prop}{Q:Exit->Act->World->Prop}(h:∀a w,K a w->f a w)(d:∀e a w,Q e a w->Q' e a w)
  (b:o.wp P a w K Q):o.wp P a w f Q':=by
 unfold Oper.wp at *;generalize (execOp a.eval o).run P w=r at *
 cases r with
 | ok n w'=>
  cases n<;>simp only[Oper.upon] at b ⊢<;>first
   | exact h _ _ b
   | exact Rows.mono b fun _ _ x=>h _ _ x
   | (refine iF b fun e g x=>?_
      cases e with
      | returned u=>exact h _ _ x
      | panicked c=>exact d _ _ _ x
      | outgrown=>obtain ⟨a,w,y⟩:=x;exact ⟨a,w,d _ _ _ y⟩)
 | halt x w'=>
  cases x<;>simp only[Oper.upon] at b ⊢
  case panic u=>exact d _ _ _ b
theorem aJg(g:Region.noSelect ops=true)(n:∀a w,Q a w->Q' .normal a w)(l:∀c a w,¬Q' (.panic c) a w) :
  ∀(π:List (Bool×Nat)) (d:Array Bool) (b:Nat) (a:Act) (w:World),planOk ops π d=true->π.length<=b->S w->
   wl P ops S Q π a w->wpAnyH P .any ops Q' S b d a w
 | [],d,b,a,w,hp,_,_,h=>wpAnyH_done (by simpa[planOk] using hp) (n _ _ h) b
 | (q,i)::r,d,b,a,w,hp,hf,hS,h=>by
  obtain ⟨b,rfl⟩:∃k,b=k+1:=⟨b-1,by simp at hf;omega⟩;simp only[aD,bQ] at hf;simp only[wl] at h
  cases p:ops[i]? with
  | none=>simp only[p] at h
  | some o=>
   simp only[p] at h
   cases q with
   | true=>
    simp only[planOk,ay] at hp;obtain ⟨⟨s,m⟩,u⟩:=hp;by_cases f:Region.wanted o (yielded ops a.tmps)=true
    ·rw[ao f,ao rfl] at h
     obtain ⟨v,x,y⟩:=h;exact jq p g s m (fun c a w e=>absurd e (l _ _ _)) (.inl ⟨f,fun w t=>x w _ _ _ _ t⟩) hS (aJg g n l r _ b _ w u hf hS y)
    rw[ah f] at h;exact jq p g s m (fun c a w e=>absurd e (l _ _ _)) (.inr ⟨by simpa using f,rfl⟩) hS (aJg g n l r _ b _ w u hf hS h)
   | false=>
    simp only[planOk,ay,gF] at hp;obtain ⟨s,m⟩:=hp;refine kW s (by simp) fun j z=>?_;obtain rfl:j=i:=(by simpa using z);unfold wpOp;simp only[p];by_cases f:Region.wanted o (yielded ops a.tmps)=true
    ·rw[ao f]
     rw[ao f] at h;simp only[bA,dD] at h;exact .inl (aFr (fun A w' e=>⟨e.1,aJg g n l r _ b A w' m hf e.1 e.2⟩) (fun _ _ _ e=>e.elim) h)
    rw[ah f];rw[ah f] at h;exact ⟨hS,aJg g n l r _ b _ w m hf hS h⟩
theorem aVx {id:Nat}{a:Act}{w:World}(S:World->Prop) (π:List (Bool×Nat))(d:P.follows .mixedOrders=true)
  (b:(Region.noSelect ops && decide (π.length<=ops.size) && planOk ops π (Array.replicate ops.size false))=true) (e:S w.drew)
  (h:wl P ops S (Q' .normal) π a w.drew):(Code.region id ops true).wp P Q' a w:=by
 simp only[ay,bh] at b;refine it (wp_region_held (S:=S) d ?_);exact aJg b.1.1 (fun _ _ h=>jc h) (fun c a w h=>h) π _ _ _ _ b.2 b.1.2 e h
end
inductive Tag {α:Type} (a:α):Type | mk
def inI64 (x:Int):Prop:=-9223372036854775808<=x/\x<=9223372036854775807
def fo (P:Program)(t:TypeId)(i:Nat):Option Nat:=
 match P.underlying t with
 | some (.struct fs)=>(fs[i]?).bind fun f=>if ((P.info? f.type).map (·.size)).getD 0=0 then none else some f.offset
 | _=>none
def es (P:Program)(t:TypeId):Option Nat:=
 match P.underlying t with
 | some (.slice e)=>(P.info? e).map (·.size)
 | _=>none
def ea (P:Program)(t:TypeId):Option (Nat×Nat):=
 match P.underlying t with
 | some (.array n e)=>(P.info? e).map (n,·.size)
 | _=>none
def lz (P:Program)(t:TypeId):Option Nat:=
 match P.underlying t with
 | some (.struct _) | some (.array _ _)=>(P.info? t).map (·.size+1)
 | some _=>some 0
 | none=>none
def sl:List Value->Nat->Value
 | [],_=>undef
 | v::_,0=>v
 | _::l,n+1=>sl l n
theorem bOb(l:List Value)(n:Nat):sl l n=l.toArray.getD n undef:=by
 induction l generalizing n with
 | nil=>simp[sl]
 | cons v l ih=>cases n with
  | zero=>simp[sl]
  | succ n=>simp only[sl,ih];simp
theorem bNq(l:List Value)(d:List Deferred)(t:Nat):Act.eval ⟨l.toArray,d⟩ (.tmp t)=sl l t:=(bOb l t).symm
def arith (k:IntKind)(x:Int)(K:Value->Prop):Prop:=
 match k with
 | .i64=>inI64 x/\K (.int .i64 x)
 | k=>K (.int k (k.wrap x))
def binq (op:BinOp)(x y:Value)(K:Value->Prop):Prop:=
 match op,x,y with
 | .add,.int k m,.int k' n=>k=k'/\arith k (m+n) K
 | .sub,.int k m,.int k' n=>k=k'/\arith k (m-n) K
 | .mul,.int k m,.int k' n=>k=k'/\arith k (m*n) K
 | .eql,.int k m,.int k' n=>k=k'/\K (.bool (decide (m=n)))
 | .neq,.int k m,.int k' n=>k=k'/\K (.bool (!decide (m=n)))
 | .lss,.int k m,.int k' n=>k=k'/\K (.bool (decide (m<n)))
 | .leq,.int k m,.int k' n=>k=k'/\K (.bool (decide (m<=n)))
 | .gtr,.int k m,.int k' n=>k=k'/\K (.bool (decide (n<m)))
 | .geq,.int k m,.int k' n=>k=k'/\K (.bool (decide (n<=m)))
 | .eql,.string s,.string t=>K (.bool (decide (s=t)))
 | .neq,.string s,.string t=>K (.bool (!decide (s=t)))
 | .add,.string s,.string t=>(((s.size+t.size:Nat):Int)<=9223372036854775807)/\K (.string (s++t))
 | .lss,.string s,.string t=>K (.bool (Op.bytesLess s.toList t.toList))
 | .geq,.string s,.string t=>K (.bool (!Op.bytesLess s.toList t.toList))
 | .leq,.string s,.string t=>K (.bool (Op.bytesLess s.toList t.toList || decide (s=t)))
 | .gtr,.string s,.string t=>K (.bool (!(Op.bytesLess s.toList t.toList || decide (s=t))))
 | .rem,.int k m,.int k' n=>k=k'/\(0<=m/\0<n)/\K (.int k (m % n))
 | .quo,.int k m,.int k' n=>k=k'/\(0<=m/\0<n)/\arith k (m / n) K
 | _,_,_=>False
def unq (op:UnOp)(x:Value)(K:Value->Prop):Prop:=
 match op,x with
 | .not,.bool b=>K (.bool (!b))
 | .neg,.int k n=>arith k (0-n) K
 | _,_=>False
def pkq (c x y:Value)(K:Value->Prop):Prop:=
 match c with
 | .bool b=>K (bif b then x else y)
 | _=>False
def faq (o:Option Nat)(x:Value)(K:Value->Prop):Prop:=
 match o,x with
 | some n,.pointer (some ⟨b,off,none⟩)=>K (.pointer (some ⟨b,off+n,none⟩))
 | _,_=>False
def rowAt (A:Option Addr)(K:Nat->Nat->Prop)(_:Tag K):Prop:=∃b o,A=some ⟨b,o,none⟩/\K b o
theorem bBn(b o:Nat)(K:Nat->Nat->Prop)(t:Tag K):rowAt (some ⟨b,o,none⟩) K t=K b o:=by
 apply propext;constructor
 ·rintro ⟨b',c,h,a⟩;cases h;exact a
 exact fun h=>⟨b,o,rfl,h⟩
def iaq (s:Option Nat)(ar:Option (Nat×Nat))(x i:Value)(K:Value->Prop):Prop:=
 match x,i with
 | .slice A n _,.int _ i=>match s with
  | some z=>(0<=i/\i<n)/\rowAt A (fun b o=>K (.pointer (some ⟨b,o+i.toNat*z,none⟩))) .mk
  | none=>False
 | .pointer (some ⟨b,o,none⟩),.int _ i=>match ar with
  | some (n,z)=>(0<=i/\i<n)/\K (.pointer (some ⟨b,o+i.toNat*z,none⟩))
  | none=>False
 | _,_=>False
def ldcs (M:Addr->Option Value)(b o:Nat)(K:Value->Prop):Nat->Nat->List Value->Prop
 | 0,_,l=>K (.agg l.reverse.toArray)
 | n+1,j,l=>match M ⟨b,o+j,none⟩ with
  | some v=>ldcs M b o K n (j+1) (v::l)
  | none=>False
def ld1 (m:Option Value)(K:Value->Prop)(_:Tag K):Prop:=
 match m with
 | some v=>K v
 | none=>False
def ldq (M:Addr->Option Value)(z:Option Nat)(x:Value)(K:Value->Prop):Prop:=
 match z,x with
 | some 0,.pointer (some ⟨b,o,none⟩)=>ld1 (M ⟨b,o,none⟩) K .mk
 | some (n+1),.pointer (some ⟨b,o,none⟩)=>ldcs M b o K n 0 []
 | _,_=>False
def lenq (st:Bool)(z:Option Nat)(x:Value)(K:Value->Prop):Prop:=
 match st,z,x with
 | false,some _,.slice _ n _=>K (.int .i64 n)
 | true,none,.string s=>K (.int .i64 s.size)
 | _,_,_=>False
def capq (x:Value)(K:Value->Prop):Prop:=
 match x with
 | .slice _ _ c=>K (.int .i64 c)
 | _=>False
def minq (x y:Value)(K:Value->Prop):Prop:=
 match x,y with
 | .int k m,.int k' n=>k=k'/\K (.int k (min m n))
 | _,_=>False
def maxq (x y:Value)(K:Value->Prop):Prop:=
 match x,y with
 | .int k m,.int k' n=>k=k'/\K (.int k (max m n))
 | _,_=>False
def isStr (P:Program)(t:TypeId):Bool:=match P.underlying t with | some .string=>true | _=>false
def slq (st:Bool)(z:Option Nat)(x:Value)(lo hi:Option Value)(K:Value->Prop):Prop:=
 match st,z,x,lo,hi with
 | false,some z,.slice A _ c,some (.int _ l),some (.int _ h)=>(0<=l/\l<=h/\h<=c)/\K (sliced A l.toNat h.toNat c z)
 | false,some z,.slice A n c,some (.int _ l),none=>(0<=l/\l<=n)/\K (sliced A l.toNat n c z)
 | false,some z,.slice A _ c,none,some (.int _ h)=>(0<=h/\h<=c)/\K (sliced A 0 h.toNat c z)
 | true,none,.string s,some (.int _ l),some (.int _ h)=>(0<=l/\l<=h/\h<=s.size)/\K (.string (s.extract l.toNat h.toNat))
 | true,none,.string s,some (.int _ l),none=>(0<=l/\l<=s.size)/\K (.string (s.extract l.toNat s.size))
 | true,none,.string s,none,some (.int _ h)=>(0<=h/\h<=s.size)/\K (.string (s.extract 0 h.toNat))
 | _,_,_,_,_=>False
def exq (x:Value)(i:Nat)(K:Value->Prop):Prop:=
 match x with
 | .tuple vs=>∃v,vs[i]? = some v/\K v
 | _=>False
def cvq (u:Bool)(k:Option IntKind)(x:Value)(K:Value->Prop):Prop:=
 match u,k,x with
 | true,some k',.int _ n=>K (.int k' (k'.wrap n))
 | _,_,_=>False
def ikOf (P:Program)(t:TypeId):Option IntKind:=
 match P.underlying t with
 | some (.int k)=>some k
 | _=>none
def cpq (z:Option Nat)(x:Value)(K:Value->Prop):Prop:=
 match z,x with
 | some _,.slice _ _ c=>K (.int .i64 c)
 | _,_=>False
def ncq (x:Value)(K:Value->Prop):Prop:=
 match x with
 | .pointer (some p)=>K (.pointer (some p))
 | _=>False
def calq (P:Program)(c:Callee)(xs:List Operand)(ts:List TypeId)(ev:Operand->Value)(K:Value->Prop):Prop:=
 match c,xs,ts with
 | .builtin .len,[x],[t]=>lenq (isStr P t) (es P t) (ev x) K
 | .builtin .cap,[x],[t]=>cpq (es P t) (ev x) K
 | .builtin .min,[x,y],[_,_]=>minq (ev x) (ev y) K
 | .builtin .max,[x,y],[_,_]=>maxq (ev x) (ev y) K
 | _,_,_=>False
def opq (P:Program)(M:Addr->Option Value)(op:Op)(ev:Operand->Value)(K:Value->Prop):Prop:=
 match op with
 | .move x=>K (ev x)
 | .assign x=>K (ev x)
 | .pick c x y=>pkq (ev c) (ev x) (ev y) K
 | .binOp op _ x y _=>binq op (ev x) (ev y) K
 | .unOp op _ x=>unq op (ev x) K
 | .fieldAddr t x i=>faq (fo P t i) (ev x) K
 | .indexAddr t x i=>iaq (es P t) (ea P t) (ev x) (ev i) K
 | .load t x=>ldq M (lz P t) (ev x) K
 | .extract x i=>exq (ev x) i K
 | .slice t x lo hi none=>slq (isStr P t) (es P t) (ev x) (lo.map ev) (hi.map ev) K
 | .convert s d x=>cvq (P.underlying s).isSome (ikOf P d) (ev x) K
 | .call c=>calq P c.callee c.args.toList c.argTypes.toList ev K
 | .nilCheck x=>ncq (ev x) K
 | _=>False
section
variable {P:Program} {S:World->Prop} {M:Addr->Option Value} {a:Act} {ty:TypeId}
theorem bLd {x:Int}(h:inI64 x):IntKind.i64.wrap x=x:=IntWalk.i64_in x ⟨h.1,by have:=h.2;omega⟩
theorem aIo {k:IntKind}{x:Int}(h:arith k x K):K (.int k (k.wrap x)):=by
 cases k<;>simp only[arith] at h
 case i64=>rw[bLd h.1];exact h.2
 all_goals exact h
theorem aTi(s t:ByteArray):(s.toList == t.toList)=decide (s=t):=by
 by_cases h:s=t
 ·subst h;simp
 rw[ak h];exact (jP s t).2 h
theorem bNo(m n:Int):(m == n)=decide (m=n):=by by_cases h:m=n<;>simp[h]
theorem bNx {c:BinOp}{t i:TypeId}{x y:Operand}(h:binq c (a.eval x) (a.eval y) K):∃v,QYields P S (.binOp c t x y i) ty a v/\K v:=by
 have key:∀X Y,binq c X Y K->∃v,(∀w,(eqGuard c t x y X Y).run P w=.ok () w/\(binOp c t X Y).run P w=.ok v w)/\K v:=by
  intro X Y h;unfold binq at h;split at h
  case h_19=>exact h.elim
  case h_18=>
   obtain ⟨rfl,⟨b,e⟩,h⟩:=h;exact ⟨_,fun w=>⟨by simp[go_sem],by rw[binOp_quo,Op.intDiv,ah O,gG b];rfl⟩,aIo h⟩
  case h_17=>
   obtain ⟨rfl,⟨b,e⟩,h⟩:=h;exact ⟨_,fun w=>⟨by simp[go_sem],by rw[binOp_rem,Op.intDiv,ah O,gH b];rfl⟩,h⟩
  case h_12=>
   obtain ⟨b,h⟩:=h;exact ⟨_,fun w=>⟨by simp[go_sem],by simp[binOp,Op.stringOp,IntKind.max,IntKind.signed,IntKind.bits];simpa using b⟩,h⟩
  all_goals first
   | (obtain ⟨rfl,h⟩:=h
      exact ⟨_,fun w=>⟨by simp[go_sem],by first | (rw[binOp_add];rfl) | (rw[binOp_sub];rfl) | (rw[binOp_mul];rfl)⟩,aIo h⟩)
   | (obtain ⟨rfl,h⟩:=h
      exact ⟨_,fun w=>⟨by simp[go_sem],by simp[go_sem,bne,<-bNo]⟩,h⟩)
   | (exact ⟨_,fun w=>⟨by simp[go_sem],by simp[binOp,Op.stringOp,<-aTi]⟩,h⟩)
 obtain ⟨v,e,f⟩:=key _ _ h;exact ⟨v,fun w d p j g _=>by simp[execOp,e w],f⟩
theorem q_un {b:UnOp}{t:TypeId}{x:Operand}(h:unq b (a.eval x) K):∃v,QYields P S (.unOp b t x) ty a v/\K v:=by
 have key:∀X,unq b X K->∃v,(∀w,(Op.unary b X).run P w=.ok v w)/\K v:=by
  intro X h;unfold unq at h;split at h
  ·exact ⟨_,fun w=>rfl,h⟩
  ·exact ⟨_,fun w=>rfl,aIo h⟩
  exact h.elim
 obtain ⟨v,c,e⟩:=key _ h;exact ⟨v,fun w d p f g _=>by simp[execOp,c w],e⟩
theorem bNr {c x y:Operand}(h:pkq (a.eval c) (a.eval x) (a.eval y) K):∃v,QYields P S (.pick c x y) ty a v/\K v:=by
 unfold pkq at h;split at h
 ·rename_i b e
  refine ⟨_,fun w d p f g _=>?_,h⟩;simp[execOp,e,asBool]
 exact h.elim
theorem q_fa {t:TypeId}{x:Operand}{i:Nat}(h:faq (fo P t i) (a.eval x) K):∃v,QYields P S (.fieldAddr t x i) ty a v/\K v:=by
 unfold faq at h;split at h
 ·rename_i n b off e o
  refine ⟨_,fun w d p u g _=>?_,h⟩;unfold fo at e;split at e
  ·rename_i s q
   obtain ⟨f,r,k⟩:=jQ.1 e;split at k
   ·cases k
   rename_i m
   cases k
   cases l:P.info? f.type with
   | none=>simp[l] at m
   | some inf=>
    have j:¬inf.size=0:=(by simpa[l] using m);have c:(⟨b,off,none⟩:Addr).add f.offset=⟨b,off+f.offset,none⟩:=(by unfold Addr.add;split<;>simp_all);simp[execOp,o,Instr.fieldAt,bK q,r,Instr.sureAddr,fieldPlace,sizeOf,typeInfo,l,j,c]
  cases e
 exact h.elim
theorem q_ia {t:TypeId}{x i:Operand}(h:iaq (es P t) (ea P t) (a.eval x) (a.eval i) K):∃v,QYields P S (.indexAddr t x i) ty a v/\K v:=by
 unfold iaq at h;split at h
 ·rename_i A n c k D q r
  split at h
  ·rename_i z l
   obtain ⟨⟨s,u⟩,b,o,rfl,y⟩:=h;refine ⟨_,fun w d p F g _=>?_,y⟩;unfold es at l;split at l
   ·rename_i e B
    obtain ⟨C,j,rfl⟩:=be.1 l;have f:∀m,(⟨b,o,none⟩:Addr).add m=⟨b,o+m,none⟩:=fun m=>(by unfold Addr.add;split<;>simp_all);simp[execOp,q,r,Instr.indexAt,bK B,asIntOf,s,u,sizeOf,typeInfo,j,f]
   cases l
  exact h.elim
 ·rename_i b o k D q r
  split at h
  ·rename_i n z l
   obtain ⟨⟨s,u⟩,y⟩:=h;refine ⟨_,fun w d p F g _=>?_,y⟩;unfold ea at l;split at l
   ·rename_i m e B
    obtain ⟨C,j,E⟩:=be.1 l
    cases E
    have f:∀m,(⟨b,o,none⟩:Addr).add m=⟨b,o+m,none⟩:=fun m=>(by unfold Addr.add;split<;>simp_all);simp[execOp,q,r,Instr.indexAt,bK B,asIntOf,s,u,sizeOf,typeInfo,j,f,Instr.sureAddr]
   cases l
  exact h.elim
 exact h.elim
theorem aVn {b o:Nat}:∀(n j:Nat) (l:List Value),ldcs M b o K n j l->∃a:List Value,a.length=n/\(∀i v,a[i]? = some v->M ⟨b,o+(j+i),none⟩=some v)/\K (.agg (l.reverse++a).toArray)
 | 0,j,l,h=>⟨[],rfl,fun i v c=>by simp at c,by simpa[ldcs] using h⟩
 | n+1,j,l,h=>by
  unfold ldcs at h;split at h
  ·rename_i v c
   obtain ⟨a,e,f,g⟩:=aVn n (j+1) (v::l) h;refine ⟨v::a,by simp[e],fun i u d=>?_,by simpa using g⟩
   cases i with
   | zero=>simp at d;subst d;exact c
   | succ i=>have:=f i u (by simpa using d);rw[<-this];congr 2;omega
  exact h.elim
theorem q_ld(A:∀p v,M p=some v->∀w,S w->w.cell? p=some v){t:TypeId}{x:Operand}{K:Value->Prop}(h:ldq M (lz P t) (a.eval x) K):∃v,QYields P S (.load t x) ty a v/\K v:=by
 unfold ldq at h;split at h
 ·rename_i b o f s
  unfold ld1 at h;split at h
  ·rename_i v u
   refine ⟨v,fun w d p G g z=>?_,h⟩;have r:=A _ _ u w z
   have c:(isAgg t).run P w=.ok false w:=by
    unfold lz at f;unfold isAgg;split at f
    ·obtain ⟨i,_,l⟩:=be.1 f;omega
    ·obtain ⟨i,_,l⟩:=be.1 f;omega
    ·rename_i d H I m
     rw[bT,bK m w]
     cases d<;>simp_all [Result.andThen]
    cases f
   simp[execOp,s,Instr.loadAt,Instr.sureAddr,loadVar,c,r]
  exact h.elim
 ·rename_i n b o f s
  obtain ⟨B,C,r,D⟩:=aVn n 0 [] h;refine ⟨_,fun w d p G g z=>?_,D⟩
  have e:=run_loadCells_list (P:=P) w ⟨b,o,none⟩ B (fun j v u=>by
   have k:(⟨b,o,none⟩:Addr).add j=⟨b,o+(0+j),none⟩:=(by unfold Addr.add;split<;>simp_all);rw[k];exact A _ _ (r j v u) w z)
  unfold lz at f
  have c:(isAgg t).run P w=.ok true w/\(P.info? t).map (·.size)=some n:=by
   unfold isAgg;split at f
   ·rename_i m
    obtain ⟨i,l,E⟩:=be.1 f;exact ⟨by rw[bT,bK m w];rfl,by simp[l];omega⟩
   ·rename_i m
    obtain ⟨i,l,E⟩:=be.1 f;exact ⟨by rw[bT,bK m w];rfl,by simp[l];omega⟩
   ·cases f
   cases f
  obtain ⟨F,q,y⟩:=be.1 c.2;rw[C] at e;simp[execOp,s,Instr.loadAt,Instr.sureAddr,loadVar,c.1,sizeOf,typeInfo,q,y,e]
 exact h.elim
theorem q_ex {x:Operand}{i:Nat}(h:exq (a.eval x) i K):∃v,QYields P S (.extract x i) ty a v/\K v:=by
 unfold exq at h;split at h
 ·rename_i f b
  obtain ⟨v,c,e⟩:=h;exact ⟨v,fun w d p j g _=>by simp[execOp,b,Instr.extract,c],e⟩
 exact h.elim
theorem bOa {t:TypeId}{x:Operand}(h:lenq (isStr P t) (es P t) (a.eval x) K):∃v,QYields P S (.call ⟨.builtin .len,#[x],#[t]⟩) ty a v/\K v:=by
 unfold lenq at h;split at h
 ·rename_i z A n c b f i
  refine ⟨_,fun w d p k g _=>?_,h⟩;unfold es at f;split at f
  ·rename_i e j
   simp[execOp,resolve,invoke,builtin,i,Builtin.len_,bK j,goInt]
  cases f
 ·rename_i s b f i
  refine ⟨_,fun w d p k g _=>?_,h⟩;unfold isStr at b;split at b
  ·rename_i j
   simp[execOp,resolve,invoke,builtin,i,Builtin.len_,bK j,goInt]
  cases b
 exact h.elim
theorem q_nc {x:Operand}(h:ncq (a.eval x) K):∃v,QYields P S (.nilCheck x) ty a v/\K v:=by
 unfold ncq at h;split at h
 ·rename_i q b
  exact ⟨_,fun w d p c g _=>by simp[execOp,b],h⟩
 exact h.elim
theorem bOc {t:TypeId}{x:Operand}(h:cpq (es P t) (a.eval x) K):∃v,QYields P S (.call ⟨.builtin .cap,#[x],#[t]⟩) ty a v/\K v:=by
 unfold cpq at h;split at h
 ·rename_i z A n c b f
  refine ⟨_,fun w d p j g _=>?_,h⟩;unfold es at b;split at b
  ·rename_i e i
   simp[execOp,resolve,invoke,builtin,f,Builtin.cap_,bK i,goInt]
  cases b
 exact h.elim
theorem q_cv {s d:TypeId}{x:Operand}(h:cvq (P.underlying s).isSome (ikOf P d) (a.eval x) K):∃v,QYields P S (.convert s d x) ty a v/\K v:=by
 unfold cvq at h;split at h
 ·rename_i j k n c b e
  refine ⟨_,fun w d p o g _=>?_,h⟩;unfold ikOf at b;split at b
  ·rename_i l f
   cases b
   obtain ⟨m,i⟩:=b8.mp c;simp[execOp,e,convert,bK i,bK f,Conv.intToInt]
  cases b
 exact h.elim
theorem q_sl {t:TypeId}{x:Operand}{D y:Option Operand}(h:slq (isStr P t) (es P t) (a.eval x) (D.map a.eval) (y.map a.eval) K) :
  ∃v,QYields P S (.slice t x D y none) ty a v/\K v:=by
 have key:∀X L H,slq (isStr P t) (es P t) X L H K->∃v,(∀w,(Instr.sliceAt t X L H none).run P w=.ok v w)/\K v:=by
  intro X L H h
  have m:∀z,es P t=some z->P.underlying t=some (.slice (P.elem t))/\∀w,(sizeOf (P.elem t)).run P w=.ok z w:=by
   intro z f;unfold es at f;split at f
   ·rename_i e b
    have C:P.elem t=e:=(by simp[Program.elem,b]);obtain ⟨i,y,B⟩:=be.1 f;exact ⟨by rw[C,b],fun w=>by simp[C,sizeOf,typeInfo,y,B]⟩
   cases f
  have o:isStr P t=true->P.underlying t=some .string:=by
   intro j;unfold isStr at j;split at j
   ·rename_i b;exact b
   cases j
  unfold slq at h;split at h
  ·rename_i z A n c k l r q j f
   obtain ⟨b,u⟩:=m z f;exact ⟨_,fun w=>by rw[jr (w:=w) t _ _ _ _ b,run_slice_lh (w:=w) t A n c b k r l q h.1.1 h.1.2.1 h.1.2.2,u];rfl,h.2⟩
  ·rename_i z A n c k l j f
   obtain ⟨b,u⟩:=m z f;exact ⟨_,fun w=>by rw[jr (w:=w) t _ _ _ _ b,run_slice_l (w:=w) t A n c b k l h.1.1 h.1.2,u];rfl,h.2⟩
  ·rename_i z A n c r q j f
   obtain ⟨b,u⟩:=m z f;exact ⟨_,fun w=>by rw[jr (w:=w) t _ _ _ _ b,run_slice_h (w:=w) t A n c b r q h.1.1 h.1.2,u];rfl,h.2⟩
  ·rename_i s k l r q j f
   have b:=o j;exact ⟨_,fun w=>by rw[jd (w:=w) t _ _ _ _ b,run_slice_string (w:=w) t s k r l q b h.1.1 h.1.2.1 h.1.2.2],h.2⟩
  ·rename_i s k l j f
   have b:=o j;exact ⟨_,fun w=>by rw[jd (w:=w) t _ _ _ _ b,run_slice_string_l (w:=w) t s b k l h.1.1 h.1.2],h.2⟩
  ·rename_i s k q j f
   have b:=o j;exact ⟨_,fun w=>by rw[jd (w:=w) t _ _ _ _ b,run_slice_string_h (w:=w) t s b k q h.1.1 h.1.2],h.2⟩
  exact h.elim
 obtain ⟨v,E,B⟩:=key _ _ _ h;exact ⟨v,fun w d p F g _=>by simp[execOp,E w],B⟩
theorem bNy {t e:TypeId}{x y:Operand}(h:minq (a.eval x) (a.eval y) K):∃v,QYields P S (.call ⟨.builtin .min,#[x,y],#[t,e]⟩) ty a v/\K v:=by
 unfold minq at h;split at h
 ·rename_i k m f n b c
  obtain ⟨rfl,h⟩:=h;refine ⟨_,fun w d p i g _=>?_,h⟩;rw[show min m n=(if n<m then n else m) from by rw[Int.min_def];split<;>split<;>omega];simp[execOp,resolve,invoke,builtin,b,c,run_min_int2]
 exact h.elim
theorem bNz {t e:TypeId}{x y:Operand}(h:maxq (a.eval x) (a.eval y) K):∃v,QYields P S (.call ⟨.builtin .max,#[x,y],#[t,e]⟩) ty a v/\K v:=by
 unfold maxq at h;split at h
 ·rename_i k m f n b c
  obtain ⟨rfl,h⟩:=h;refine ⟨_,fun w d p i g _=>?_,h⟩;rw[show max m n=(if n > m then n else m) from by rw[Int.max_def];split<;>split<;>omega];simp[execOp,resolve,invoke,builtin,b,c,run_max_int2]
 exact h.elim
theorem bNk {c:Call}(h:calq P c.callee c.args.toList c.argTypes.toList a.eval K):∃v,QYields P S (.call c) ty a v/\K v:=by
 obtain ⟨ca,⟨xs⟩,⟨b⟩⟩:=c;unfold calq at h;dsimp only at h;split at h
 ·exact bOa h
 ·exact bOc h
 ·exact bNy h
 ·exact bNz h
 exact h.elim
theorem aOf(e:∀p v,M p=some v->∀w,S w->w.cell? p=some v){b:Op}{K:Value->Prop}(h:opq P M b a.eval K):∃v,QYields P S b ty a v/\K v:=by
 unfold opq at h;split at h
 ·exact ⟨_,fun w d p c g _=>by simp[execOp],h⟩
 ·exact ⟨_,fun w d p c g _=>by simp[execOp],h⟩
 ·exact bNr h
 ·exact bNx h
 ·exact q_un h
 ·exact q_fa h
 ·exact q_ia h
 ·exact q_ld e h
 ·exact q_ex h
 ·exact q_sl h
 ·exact q_cv h
 ·exact bNk h
 ·exact q_nc h
 exact h.elim
end
structure QOp where
 q:Bool
 dst:Option Tmp
 op:Op
 type:TypeId
 g:Option (Tmp×Bool)
def gOf (ops:Array Oper):Option (Nat×Bool)->Option (Tmp×Bool)
 | none=>none
 | some (j,b)=>match ((ops.toList[j]?).bind (·.dst):Option Tmp) with
  | some t=>some (t,b)
  | none=>none
def cmp1 (ops:Array Oper)(q:Bool)(i:Nat):QOp:=
 match ops.toList[i]? with
 | some o=>⟨q,o.dst,o.op,o.type,gOf ops o.guard⟩
 | none=>⟨true,none,.panic (.const undef),0,none⟩
def cmp (ops:Array Oper):List (Bool×Nat)->List QOp
 | []=>[]
 | (q,i)::r=>cmp1 ops q i::cmp ops r
def gsym (c:Bool)(A B:Prop):Prop:=(c=true->A)/\(c=false->B)
def gsel (c b:Bool)(run skip:Bool->Prop):Prop:=(c=b->run c)/\(c≠b->skip c)
def gl (c b:Bool)(run skip:Bool->Prop):Prop:=gsel c b run skip
def gq (v:Value)(b:Bool)(run skip:Bool->Prop)(no:Prop):Prop:=
 match v with
 | .bool c=>gsel c b run skip
 | _=>no
def effq (P:Program)(S:World->Prop)(x:QOp)(a:Act)(w:World)(K:Act->World->Prop):Prop:=
 ∀(p:String) (af:Array Edge) (g:Option (Nat×Bool)),Oper.wp P ⟨x.dst,x.op,x.type,p,af,g⟩ a w (fun a' w'=>S w'/\K a' w') (fun _ _ _=>False)
def wq (P:Program)(S:World->Prop)(M:Addr->Option Value)(Q:Act->World->Prop):List QOp->Act->World->Prop
 | [],a,w=>Q a w
 | ⟨q,d,o,ty,none⟩::r,a,w=>
  if q=true then opq P M o a.eval (fun v=>wq P S M Q r (a.put d v) w) else effq P S ⟨q,d,o,ty,none⟩ a w (wq P S M Q r)
 | ⟨q,d,o,ty,some (t,b)⟩::r,a,w=>
  gq (a.eval (.tmp t)) b
   (fun c=>if q=true then opq P M o (a.put (some t) (.bool c)).eval (fun v=>wq P S M Q r ((a.put (some t) (.bool c)).put d v) w)
    else effq P S ⟨q,d,o,ty,none⟩ (a.put (some t) (.bool c)) w (wq P S M Q r))
   (fun c=>wq P S M Q r ((a.put (some t) (.bool c)).put d undef) w)
   (wq P S M Q r (a.put d undef) w)
theorem bHs {l:Array Value}{t:Nat}{c:Bool}:l.getD t undef=.bool c↔l[t]? = some (.bool c):=by
 rw[Array.getD_eq_getD_getElem?]
 cases h:l[t]? with
 | none=>simp[undef]
 | some v=>simp
theorem bKj {a:Act}{t:Nat}{c:Bool}(h:a.eval (.tmp t)=.bool c):a.put (some t) (.bool c)=a:=by
 obtain ⟨⟨l⟩,d⟩:=a;simp only[Act.eval,Act.put] at *;congr 1
 have b:t<l.length:=by
  rcases bo t l.length with e | e
  ·exact e
  simp[e,undef] at h
 simp[b] at h;simp only[List.setIfInBounds_toArray];congr 1;apply bM;intro i;rw[jt];split
 ·rename_i f;subst f;simp[b,h]
 rfl
section
variable {P:Program} {S:World->Prop} {M:Addr->Option Value} {Q:Act->World->Prop} {ops:Array Oper}
theorem aBz (hM:∀p v,M p=some v->∀w,S w->w.cell? p=some v):∀(π:List (Bool×Nat)) (a:Act) (w:World),
  (π.all fun x=>(ops[x.2]?).isSome && (match (ops[x.2]?).bind (·.guard) with | some (j,_)=>((ops[j]?).bind (·.dst)).isSome | none=>true))=true->
  wq P S M Q (cmp ops π) a w->wl P ops S Q π a w
 | [],a,w,_,h=>by simpa[cmp,wq,wl] using h
 | (q,i)::r,a,w,hp,h=>by
  simp only[jI,ay] at hp;obtain ⟨⟨h1,h2⟩,hr⟩:=hp;obtain ⟨o,ho⟩:=b8.mp h1;have ho':ops.toList[i]? = some o:=by simpa using ho
  simp only[wl,ho];simp only[ho,mu] at h2;simp only[cmp,cmp1,ho'] at h
  cases hg:o.guard with
  | none=>
   simp only[hg,gOf,wq] at h;rw[ao (by simp[Region.wanted,hg])]
   cases q with
   | true=>
    simp only[fj] at h ⊢;obtain ⟨v,hv,hk⟩:=aOf (S:=S) (ty:=o.type) hM h;exact ⟨v,hv,aBz hM r _ w hr hk⟩
   | false=>
    simp only[bA,dD] at h ⊢;exact Oper.wp_mono (fun a' w' hh=>⟨hh.1,aBz hM r _ _ hr hh.2⟩) (h o.pos o.after o.guard)
  | some gg=>
   obtain ⟨j,b⟩:=gg;simp only[hg] at h2;obtain ⟨t,ht⟩:=b8.mp h2;have ht':(ops.toList[j]?).bind (·.dst)=some t:=(by simpa using ht);simp only[hg,gOf,ht',wq] at h
   have hyield:∀c,a.eval (.tmp t)=.bool c->yielded ops a.tmps j=some c:=by
    intro c hc;simp only[Act.eval] at hc;have:=bHs.1 hc;simp[yielded,ht,this]
   unfold gq at h;split at h
   ·rename_i c hc
    have hy:=hyield c hc;simp only[gsel,bKj hc] at h;by_cases hcb:c=b
    ·subst hcb
     rw[ao (by simp[Region.wanted,hg,hy])];replace h:=h.1 rfl
     cases q with
     | true=>
      simp only[fj] at h ⊢;obtain ⟨v,hv,hk⟩:=aOf (S:=S) (ty:=o.type) hM h;exact ⟨v,hv,aBz hM r _ w hr hk⟩
     | false=>
      simp only[bA,dD] at h ⊢;exact Oper.wp_mono (fun a' w' hh=>⟨hh.1,aBz hM r _ _ hr hh.2⟩) (h o.pos o.after o.guard)
    rw[ah (by simp[Region.wanted,hg,hy,hcb])];exact aBz hM r _ w hr (h.2 hcb)
   rename_i hnb
   have hy:yielded ops a.tmps j=none:=by
    simp only[Act.eval] at hnb;simp only[yielded,ht];split
    ·rename_i c hc;exact absurd (bHs.2 (by simpa using hc)) (hnb c)
    rfl
   rw[ah (by simp[Region.wanted,hg,hy])];exact aBz hM r _ w hr h
end
section congrs
variable {P:Program} {M:Addr->Option Value} {K:Value->Prop}
@[congr] theorem bMv {a:BinOp} {x x' y y':Value} (b:x=x') (c:y=y'):binq a x y K=binq a x' y' K:=by rw[b,c]
@[congr] theorem bNu {a:UnOp} {x x':Value} (b:x=x'):unq a x K=unq a x' K:=by rw[b]
@[congr] theorem bNa {c a x x' y y':Value} (b:c=a) (d:x=x') (e:y=y'):pkq c x y K=pkq a x' y' K:=by rw[b,d,e]
@[congr] theorem bNh {o a:Option Nat} {x x':Value} (b:o=a) (c:x=x'):faq o x K=faq a x' K:=by rw[b,c]
@[congr] theorem bNd {z z':Option Nat} {b a:Option (Nat×Nat)} {x x' i c:Value} (d:z=z') (ha:b=a) (e:x=x') (f:i=c):iaq z b x i K=iaq z' a x' c K:=by rw[d,ha,e,f]
@[congr] theorem bNe {z z':Option Nat} {x x':Value} (a:z=z') (b:x=x'):ldq M z x K=ldq M z' x' K:=by rw[a,b]
@[congr] theorem bNp {x x':Value} (a:x=x'):ncq x K=ncq x' K:=by rw[a]
@[congr] theorem bMw {b b':Bool} {z z':Option Nat} {x x':Value} (a:b=b') (c:z=z') (d:x=x'):lenq b z x K=lenq b' z' x' K:=by rw[a,c,d]
@[congr] theorem bMx {x x' y y':Value} (a:x=x') (b:y=y'):maxq x y K=maxq x' y' K:=by rw[a,b]
@[congr] theorem bMz {b b':Bool} {z z':Option Nat} {x x':Value} {l a h c:Option Value} (d:b=b') (e:z=z') (f:x=x') (g:l=a) (i:h=c):slq b z x l h K=slq b' z' x' a c K:=by
 rw[d,e,f,g,i]
@[congr] theorem bNg {x x':Value} {i:Nat} (a:x=x'):exq x i K=exq x' i K:=by rw[a]
@[congr] theorem bNs {b b':Bool} {k a:Option IntKind} {x x':Value} (c:b=b') (d:k=a) (e:x=x'):cvq b k x K=cvq b' a x' K:=by rw[c,d,e]
@[congr] theorem bNw {v a:Value} {b:Bool} {r s:Bool->Prop} {n:Prop} (c:v=a):gq v b r s n=gq a b r s n:=by rw[c]
@[congr] theorem bMu {S:World->Prop} {x:QOp} {a b:Act} {w:World} {K:Act->World->Prop} (ha:a=b):effq P S x a w K=effq P S x b w K:=by rw[ha]
end congrs
theorem qpre:
  (∀(P:Program) (M:Addr->Option Value) (x:Operand) (a:Operand->Value) (K:Value->Prop),opq P M (.move x) a K=K (a x))/\
  (∀(P:Program) (M:Addr->Option Value) (x:Operand) (a:Operand->Value) (K:Value->Prop),opq P M (.assign x) a K=K (a x))/\
  (∀(P:Program) (M:Addr->Option Value) (c x y:Operand) (a:Operand->Value) (K:Value->Prop),opq P M (.pick c x y) a K=pkq (a c) (a x) (a y) K)/\
  (∀(P:Program) (M:Addr->Option Value) (e:BinOp) (t f:TypeId) (x y:Operand) (a:Operand->Value) (K:Value->Prop),opq P M (.binOp e t x y f) a K=binq e (a x) (a y) K)/\
  (∀(P:Program) (M:Addr->Option Value) (e:UnOp) (t:TypeId) (x:Operand) (a:Operand->Value) (K:Value->Prop),opq P M (.unOp e t x) a K=unq e (a x) K)/\
  (∀(P:Program) (M:Addr->Option Value) (t:TypeId) (x:Operand) (i:Nat) (a:Operand->Value) (K:Value->Prop),opq P M (.fieldAddr t x i) a K=faq (fo P t i) (a x) K)/\
  (∀(P:Program) (M:Addr->Option Value) (t:TypeId) (x i:Operand) (a:Operand->Value) (K:Value->Prop),opq P M (.indexAddr t x i) a K=iaq (es P t) (ea P t) (a x) (a i) K)/\
  (∀(P:Program) (M:Addr->Option Value) (t:TypeId) (x:Operand) (a:Operand->Value) (K:Value->Prop),opq P M (.load t x) a K=ldq M (lz P t) (a x) K)/\
  (∀(P:Program) (M:Addr->Option Value) (x:Operand) (i:Nat) (a:Operand->Value) (K:Value->Prop),opq P M (.extract x i) a K=exq (a x) i K)/\
  (∀(P:Program) (M:Addr->Option Value) (t:TypeId) (x l h:Operand) (a:Operand->Value) (K:Value->Prop),opq P M (.slice t x (some l) (some h) none) a K=slq (isStr P t) (es P t) (a x) (some (a l)) (some (a h)) K)/\
  (∀(P:Program) (M:Addr->Option Value) (t:TypeId) (x l:Operand) (a:Operand->Value) (K:Value->Prop),opq P M (.slice t x (some l) none none) a K=slq (isStr P t) (es P t) (a x) (some (a l)) none K)/\
  (∀(P:Program) (M:Addr->Option Value) (t:TypeId) (x h:Operand) (a:Operand->Value) (K:Value->Prop),opq P M (.slice t x none (some h) none) a K=slq (isStr P t) (es P t) (a x) none (some (a h)) K)/\
  (∀(P:Program) (M:Addr->Option Value) (s d:TypeId) (x:Operand) (a:Operand->Value) (K:Value->Prop),opq P M (.convert s d x) a K=cvq (P.underlying s).isSome (ikOf P d) (a x) K)/\
  (∀(P:Program) (M:Addr->Option Value) (t:TypeId) (x:Operand) (a:Operand->Value) (K:Value->Prop),opq P M (.call ⟨.builtin .len,#[x],#[t]⟩) a K=lenq (isStr P t) (es P t) (a x) K)/\
  (∀(P:Program) (M:Addr->Option Value) (t:TypeId) (x:Operand) (a:Operand->Value) (K:Value->Prop),opq P M (.call ⟨.builtin .cap,#[x],#[t]⟩) a K=cpq (es P t) (a x) K)/\
  (∀(P:Program) (M:Addr->Option Value) (x:Operand) (a:Operand->Value) (K:Value->Prop),opq P M (.nilCheck x) a K=ncq (a x) K)/\
  (∀(P:Program) (M:Addr->Option Value) (t f:TypeId) (x y:Operand) (a:Operand->Value) (K:Value->Prop),opq P M (.call ⟨.builtin .min,#[x,y],#[t,f]⟩) a K=minq (a x) (a y) K)/\
  (∀(P:Program) (M:Addr->Option Value) (t f:TypeId) (x y:Operand) (a:Operand->Value) (K:Value->Prop),opq P M (.call ⟨.builtin .max,#[x,y],#[t,f]⟩) a K=maxq (a x) (a y) K)/\
  (∀(r s:Bool->Prop),gl true true r s=r true)/\(∀(r s:Bool->Prop),gl true false r s=s true)/\
  (∀(r s:Bool->Prop),gl false true r s=s false)/\(∀(r s:Bool->Prop),gl false false r s=r false)/\
  (∀(r s:Bool->Prop),gsel true true r s=r true)/\(∀(r s:Bool->Prop),gsel true false r s=s true)/\
  (∀(r s:Bool->Prop),gsel false true r s=s false)/\(∀(r s:Bool->Prop),gsel false false r s=r false)/\
  (∀(b o:Nat) (K:Nat->Nat->Prop) (t:Tag K),rowAt (some ⟨b,o,none⟩) K t=K b o)/\
  (∀A B:Prop,gsym true A B=A)/\(∀A B:Prop,gsym false A B=B)/\
  (∀(x:Int) (K:Value->Prop),arith .i64 x K=(inI64 x/\K (.int .i64 x)))/\
  (∀(x:Int) (K:Value->Prop),arith .u8 x K=K (.int .u8 (IntKind.u8.wrap x)))/\
  (∀(x:Int) (K:Value->Prop),arith .u64 x K=K (.int .u64 (IntKind.u64.wrap x)))/\
  (∀(x:Int) (K:Value->Prop),arith .i32 x K=K (.int .i32 (IntKind.i32.wrap x)))/\
  (∀(x:Int) (K:Value->Prop),arith .u32 x K=K (.int .u32 (IntKind.u32.wrap x))):=
 by
 repeat' (apply And.intro)
 all_goals first
  | (intros;rfl)
  | (intros;exact bBn _ _ _ _)
  | (intros;simp[gsel,gl];done)
  | (intros;simp[gsym];done)
theorem bIa {M:Addr->Option Value}{b o:Nat}(n j:Nat)(l:List Value) :
  ldcs M b o K (n+1) j l=ld1 (M ⟨b,o+j,none⟩) (fun v=>ldcs M b o K n (j+1) (v::l)) .mk:=by
 simp only[ldcs,ld1]
theorem bMa {b c:Bool}{r s:Bool->Prop}:gsel c b r s=gsym c (gsel true b r s) (gsel false b r s):=by
 apply propext
 cases c<;>simp[gsym]
theorem aAb:
  (∀(P:Program) (S:World->Prop) (M:Addr->Option Value) (Q:Act->World->Prop) (a:Act) (w:World),wq P S M Q [] a w=Q a w)/\
  (∀(P:Program) (S:World->Prop) (M:Addr->Option Value) (Q:Act->World->Prop) (d:Option Tmp) (o:Op) (ty:TypeId) (r:List QOp) (a:Act) (w:World),
   wq P S M Q (⟨true,d,o,ty,none⟩::r) a w=opq P M o a.eval (fun v=>wq P S M Q r (a.put d v) w))/\
  (∀(P:Program) (S:World->Prop) (M:Addr->Option Value) (Q:Act->World->Prop) (d:Option Tmp) (o:Op) (ty:TypeId) (r:List QOp) (a:Act) (w:World),
   wq P S M Q (⟨false,d,o,ty,none⟩::r) a w=effq P S ⟨false,d,o,ty,none⟩ a w (wq P S M Q r))/\
  (∀(P:Program) (S:World->Prop) (M:Addr->Option Value) (Q:Act->World->Prop) (d:Option Tmp) (o:Op) (ty:TypeId) (t:Tmp) (b:Bool) (r:List QOp) (a:Act) (w:World),
   wq P S M Q (⟨true,d,o,ty,some (t,b)⟩::r) a w=gq (a.eval (.tmp t)) b
    (fun c=>opq P M o (a.put (some t) (.bool c)).eval (fun v=>wq P S M Q r ((a.put (some t) (.bool c)).put d v) w))
    (fun c=>wq P S M Q r ((a.put (some t) (.bool c)).put d undef) w) (wq P S M Q r (a.put d undef) w))/\
  (∀(P:Program) (S:World->Prop) (M:Addr->Option Value) (Q:Act->World->Prop) (d:Option Tmp) (o:Op) (ty:TypeId) (t:Tmp) (b:Bool) (r:List QOp) (a:Act) (w:World),
   wq P S M Q (⟨false,d,o,ty,some (t,b)⟩::r) a w=gq (a.eval (.tmp t)) b
    (fun c=>effq P S ⟨false,d,o,ty,none⟩ (a.put (some t) (.bool c)) w (wq P S M Q r))
    (fun c=>wq P S M Q r ((a.put (some t) (.bool c)).put d undef) w) (wq P S M Q r (a.put d undef) w))/\
  (∀(c b:Bool) (r s:Bool->Prop) (n:Prop),gq (.bool c) b r s n=gsym c (gl true b r s) (gl false b r s))/\
  (∀(b:Bool) (r s:Bool->Prop) (n:Prop),gq undef b r s n=n)/\
  (∀(k:IntKind) (m n:Int) (K:Value->Prop),binq .add (.int k m) (.int k n) K=arith k (m+n) K)/\
  (∀(k:IntKind) (m n:Int) (K:Value->Prop),binq .sub (.int k m) (.int k n) K=arith k (m-n) K)/\
  (∀(k:IntKind) (m n:Int) (K:Value->Prop),binq .mul (.int k m) (.int k n) K=arith k (m*n) K)/\
  (∀(k:IntKind) (m n:Int) (K:Value->Prop),binq .rem (.int k m) (.int k n) K=((0<=m/\0<n)/\K (.int k (m % n))))/\
  (∀(k:IntKind) (m n:Int) (K:Value->Prop),binq .quo (.int k m) (.int k n) K=((0<=m/\0<n)/\arith k (m / n) K))/\
  (∀(k:IntKind) (m n:Int) (K:Value->Prop),binq .eql (.int k m) (.int k n) K=K (.bool (decide (m=n))))/\
  (∀(k:IntKind) (m n:Int) (K:Value->Prop),binq .neq (.int k m) (.int k n) K=K (.bool (!decide (m=n))))/\
  (∀(k:IntKind) (m n:Int) (K:Value->Prop),binq .lss (.int k m) (.int k n) K=K (.bool (decide (m<n))))/\
  (∀(k:IntKind) (m n:Int) (K:Value->Prop),binq .leq (.int k m) (.int k n) K=K (.bool (decide (m<=n))))/\
  (∀(k:IntKind) (m n:Int) (K:Value->Prop),binq .gtr (.int k m) (.int k n) K=K (.bool (decide (n<m))))/\
  (∀(k:IntKind) (m n:Int) (K:Value->Prop),binq .geq (.int k m) (.int k n) K=K (.bool (decide (n<=m))))/\
  (∀(m n:ByteArray) (K:Value->Prop),binq .eql (.string m) (.string n) K=K (.bool (decide (m=n))))/\
  (∀(m n:ByteArray) (K:Value->Prop),binq .neq (.string m) (.string n) K=K (.bool (!decide (m=n))))/\
  (∀(s t:ByteArray) (K:Value->Prop),binq .add (.string s) (.string t) K=((((s.size+t.size:Nat):Int)<=9223372036854775807)/\K (.string (s++t))))/\
  (∀(s t:ByteArray) (K:Value->Prop),binq .lss (.string s) (.string t) K=K (.bool (Op.bytesLess s.toList t.toList)))/\
  (∀(s t:ByteArray) (K:Value->Prop),binq .geq (.string s) (.string t) K=K (.bool (!Op.bytesLess s.toList t.toList)))/\
  (∀(s t:ByteArray) (K:Value->Prop),binq .leq (.string s) (.string t) K=K (.bool (Op.bytesLess s.toList t.toList || decide (s=t))))/\
  (∀(s t:ByteArray) (K:Value->Prop),binq .gtr (.string s) (.string t) K=K (.bool (!(Op.bytesLess s.toList t.toList || decide (s=t)))))/\
  (∀(b:Bool) (K:Value->Prop),unq .not (.bool b) K=K (.bool (!b)))/\
  (∀(k:IntKind) (n:Int) (K:Value->Prop),unq .neg (.int k n) K=arith k (0-n) K)/\
  (∀(x y:Value) (K:Value->Prop),pkq (.bool true) x y K=K x)/\(∀(x y:Value) (K:Value->Prop),pkq (.bool false) x y K=K y)/\
  (∀(n b o:Nat) (K:Value->Prop),faq (some n) (.pointer (some ⟨b,o,none⟩)) K=K (.pointer (some ⟨b,o+n,none⟩)))/\
  (∀(z n c:Nat) (q:Option (Nat×Nat)) (A:Option Addr) (k:IntKind) (i:Int) (K:Value->Prop),
   iaq (some z) q (.slice A n c) (.int k i) K=((0<=i/\i<n)/\rowAt A (fun b o=>K (.pointer (some ⟨b,o+i.toNat*z,none⟩))) .mk))/\
  (∀(z:Option Nat) (n m b o:Nat) (k:IntKind) (i:Int) (K:Value->Prop),
   iaq z (some (n,m)) (.pointer (some ⟨b,o,none⟩)) (.int k i) K=((0<=i/\i<n)/\K (.pointer (some ⟨b,o+i.toNat*m,none⟩))))/\
  (∀(M:Addr->Option Value) (b o:Nat) (K:Value->Prop),ldq M (some 0) (.pointer (some ⟨b,o,none⟩)) K=ld1 (M ⟨b,o,none⟩) K .mk)/\
  (∀(M:Addr->Option Value) (n b o:Nat) (K:Value->Prop),ldq M (some (n+1)) (.pointer (some ⟨b,o,none⟩)) K=ldcs M b o K n 0 [])/\
  (∀(M:Addr->Option Value) (b o j:Nat) (K:Value->Prop) (l:List Value),ldcs M b o K 0 j l=K (.agg l.reverse.toArray))/\
  (∀(M:Addr->Option Value) (n b o j:Nat) (K:Value->Prop) (l:List Value),ldcs M b o K (n+1) j l=ld1 (M ⟨b,o+j,none⟩) (fun v=>ldcs M b o K n (j+1) (v::l)) .mk)/\
  (∀(v:Value) (K:Value->Prop) (t:Tag K),ld1 (some v) K t=K v)/\
  (∀(z n c:Nat) (A:Option Addr) (K:Value->Prop),lenq false (some z) (.slice A n c) K=K (.int .i64 n))/\
  (∀(s:ByteArray) (K:Value->Prop),lenq true none (.string s) K=K (.int .i64 s.size))/\
  (∀(z n c:Nat) (A:Option Addr) (K:Value->Prop),cpq (some z) (.slice A n c) K=K (.int .i64 c))/\
  (∀(p:Addr) (K:Value->Prop),ncq (.pointer (some p)) K=K (.pointer (some p)))/\
  (∀(k:IntKind) (m n:Int) (K:Value->Prop),minq (.int k m) (.int k n) K=K (.int k (min m n)))/\
  (∀(k:IntKind) (m n:Int) (K:Value->Prop),maxq (.int k m) (.int k n) K=K (.int k (max m n)))/\
  (∀(z n c:Nat) (A:Option Addr) (k e:IntKind) (l h:Int) (K:Value->Prop),slq false (some z) (.slice A n c) (some (.int k l)) (some (.int e h)) K=((0<=l/\l<=h/\h<=c)/\K (sliced A l.toNat h.toNat c z)))/\
  (∀(z n c:Nat) (A:Option Addr) (k:IntKind) (l:Int) (K:Value->Prop),slq false (some z) (.slice A n c) (some (.int k l)) none K=((0<=l/\l<=n)/\K (sliced A l.toNat n c z)))/\
  (∀(z n c:Nat) (A:Option Addr) (k:IntKind) (h:Int) (K:Value->Prop),slq false (some z) (.slice A n c) none (some (.int k h)) K=((0<=h/\h<=c)/\K (sliced A 0 h.toNat c z)))/\
  (∀(s:ByteArray) (k e:IntKind) (l h:Int) (K:Value->Prop),slq true none (.string s) (some (.int k l)) (some (.int e h)) K=((0<=l/\l<=h/\h<=s.size)/\K (.string (s.extract l.toNat h.toNat))))/\
  (∀(s:ByteArray) (k:IntKind) (l:Int) (K:Value->Prop),slq true none (.string s) (some (.int k l)) none K=((0<=l/\l<=s.size)/\K (.string (s.extract l.toNat s.size))))/\
  (∀(s:ByteArray) (k:IntKind) (h:Int) (K:Value->Prop),slq true none (.string s) none (some (.int k h)) K=((0<=h/\h<=s.size)/\K (.string (s.extract 0 h.toNat))))/\
  (∀(k e:IntKind) (n:Int) (K:Value->Prop),cvq true (some e) (.int k n) K=K (.int e (e.wrap n)))/\
  (∀(u v:Value) (K:Value->Prop),exq (.tuple #[u,v]) 0 K=K u)/\(∀(u v:Value) (K:Value->Prop),exq (.tuple #[u,v]) 1 K=K v)/\
  (∀(l:List Value) (g:List Deferred) (d:Tmp) (v:Value),Act.put ⟨l.toArray,g⟩ (some d) v=⟨(l.set d v).toArray,g⟩)/\
  (∀(a:Act) (v:Value),a.put none v=a)/\
  (∀(l:List Value) (d:List Deferred) (t:Nat),Act.eval ⟨l.toArray,d⟩ (.tmp t)=sl l t)/\
  (∀(a:Act) (v:Value),a.eval (.const v)=v)/\(∀(a:Act) (f:FuncId),a.eval (.func f)=.func (.func f) #[] #[])/\
  (∀(v:Value) (l:List Value),sl (v::l) 0=v)/\(∀(v:Value) (l:List Value) (n:Nat),sl (v::l) (n+1)=sl l n):=by
 repeat' (apply And.intro)
 all_goals first
  | (intros;rfl)
  | (intros;exact bMa)
  | (intros;exact bIa _ _ _)
  | (intros;simp[binq,minq,maxq,exq];done)
  | (intros;apply Act.put.eq_1)
  | (intros;simp[Act.put];done)
  | (intros;exact bNq _ _ _)
def bitsOf (l:List Nat):Nat:=l.foldl (fun m t=>m ||| 2 ^ t) 0
theorem aSm(l:List Nat)(m t:Nat):(l.foldl (fun m t=>m ||| 2 ^ t) m).testBit t=(m.testBit t || decide (t∈l)):=by
 induction l generalizing m with
 | nil=>simp
 | cons x l ih=>
  rw[bR,ih,cu,cF];by_cases h:x=t
  ·subst h;simp
  simp[h,kF h]
theorem aAz(l:List Nat)(t:Nat):(bitsOf l).testBit t=decide (t∈l):=by
 unfold bitsOf;rw[aSm];simp
structure OBits where
 dep:Nat
 dst:Nat
 look:Nat
def obits (ops:Array Oper)(o:Oper):OBits:=
 ⟨bitsOf (o.after.toList.filterMap fun e=>if Region.binds .any e then some e.on else none),match o.dst with | some d=>2 ^ d | none=>0,bitsOf (o.looksAt ops)⟩
def inM (x m:Nat):Bool:=Nat.land x m == x
def clash (i:Nat)(x:OBits):List OBits->Nat->Nat
 | [],_=>0
 | y::l,j=>
  Nat.lor (bif Nat.beq i j then 0 else bif y.dep.testBit i then 0 else bif Nat.land (Nat.lor y.look y.dst) x.dst == 0 && Nat.land x.look y.dst == 0 then 0 else 2 ^ j) (clash i x l (j+1))
def clashes (all:List OBits):List OBits->Nat->List (Nat×Nat)
 | [],_=>[]
 | x::l,i=>(x.dep,clash i x all 0)::clashes all l (i+1)
def alone (m i:Nat):List (Nat×Nat)->Nat->Bool
 | [],_=>true
 | x::l,j=>(Nat.beq i j || m.testBit j || !inM x.1 m) && alone m i l (j+1)
def planF (D:List (Nat×Nat)):List (Bool×Nat)->Nat->Bool
 | [],m=>inM (2 ^ D.length-1) m
 | (q,i)::r,m=>
  match D[i]? with
  | none=>false
  | some x=>!m.testBit i && inM x.1 m && (bif q then inM x.2 m else alone m i D 0) && planF D r (Nat.lor m (2 ^ i))
theorem aKm {x m:Nat}(h:inM x m=true){t:Nat}(b:x.testBit t=true):m.testBit t=true:=by
 have a:x &&& m=x:=by simpa[inM] using h
 have:=congrArg (·.testBit t) a;simp only[iP,b,db] at this;exact this
theorem bLg {x m:Nat}(h:∀t,x.testBit t=true->m.testBit t=true):inM x m=true:=by
 have a:x &&& m=x:=by
  apply kg;intro t;rw[iP]
  cases b:x.testBit t
  ·rfl
  simp[h t b]
 simpa[inM] using a
theorem aMx {i:Nat}{x:OBits}:∀(l:List OBits) (k j:Nat) (y:OBits),l[j]? = some y->(clash i x l k).testBit (k+j)=false->
  i=k+j\/y.dep.testBit i=true\/((Nat.lor y.look y.dst) &&& x.dst=0/\x.look &&& y.dst=0)
 | [],k,j,y,h,_=>by simp at h
 | z::l,k,0,y,h,hb=>by
  obtain rfl:z=y:=by simpa using h
  simp only[clash] at hb;have a:=hb;rw[show Nat.lor _ _=_ ||| _ from rfl,cu,dn] at a;replace a:=a.1;by_cases d:i=k
  ·exact .inl O
  have c:Nat.beq i k=false:=by rw[<-mw,Nat.beq_eq];exact d
  rw[c] at a
  cases e:z.dep.testBit i with
  | true=>exact .inr (.inl rfl)
  | false=>
   rw[e] at a;simp only[cond_false] at a;by_cases b:(Nat.land (Nat.lor z.look z.dst) x.dst == 0 && Nat.land x.look z.dst == 0)=true
   ·simp only[ay,gF] at b
    exact .inr (.inr b)
   rw[mw] at b;rw[b] at a;simp[] at a
 | z::l,k,j+1,y,h,hb=>by
  simp only[clash] at hb;rw[show Nat.lor _ _=_ ||| _ from rfl,cu,dn] at hb;have:=aMx l (k+1) j y (by simpa using h) (by rw[show k+1+j=k+(j+1) from O];exact hb.2);rw[show k+1+j=k+(j+1) from O] at this;exact this
theorem aFh(a:List OBits):∀(l:List OBits) (k i:Nat),(clashes a l k)[i]? = (l[i]?).map fun x=>(x.dep,clash (k+i) x a 0)
 | [],k,i=>by simp[clashes]
 | x::l,k,0=>by simp[clashes]
 | x::l,k,i+1=>by simp only[clashes,bE];rw[aFh a l (k+1) i,show k+1+i=k+(i+1) from O]
theorem aQp {m i:Nat}:∀(l:List (Nat×Nat)) (k j:Nat) (x:Nat×Nat),alone m i l k=true->l[j]? = some x->i=k+j\/m.testBit (k+j)=true\/inM x.1 m=false
 | [],k,j,x,_,h=>by simp at h
 | z::l,k,0,x,h,hx=>by
  obtain rfl:z=x:=by simpa using hx
  simp only[alone,ay,dt] at h;rcases h.1 with (a | a) | a
  ·exact .inl (by simpa using dW a)
  ·exact .inr (.inl (by simpa using a))
  exact .inr (.inr (by simpa using a))
 | z::l,k,j+1,x,h,hx=>by
  simp only[alone,ay] at h;have:=aQp l (k+1) j x h.2 (by simpa using hx);rw[show k+1+j=k+(j+1) from O] at this;exact this
def dataOf (ops:Array Oper):List (Nat×Nat):=let all:=ops.toList.map (obits ops);clashes all all 0
theorem aLz {n i:Nat}{p:Nat->Bool}(e:i<n)(c:p i=true)(a:∀j,j<n->j≠i->p j=false):(List.range n).filter p=[i]:=by
 have d:(List.range n).filter p=(List.range n).filter (fun j=>j == i):=by
  apply dJ;intro j b;by_cases h:j=i
  ·subst h;simp[c]
  rw[a j (bL.1 b) h];simp[h]
 rw[d]
 induction n with
 | zero=>omega
 | succ n ih=>
  rw[eY,bX];by_cases h:i=n
  ·subst h
   have:(List.range i).filter (fun j=>j == i)=[]:=by
    rw[eJ];intro j b;have:=bL.1 b;simp;omega
   simp[this]
  have:=ih O (fun j b=>a j O) (by
   apply dJ;intro j b;by_cases h:j=i
   ·subst h;simp[c]
   rw[a j (by have:=bL.1 b;omega) h];simp[h])
  rw[this];have:(n == i)=false:=by simp;omega
  simp[this]
theorem aCz:∀(π:List (Bool×Nat)) (m:Nat) (c:Array Bool),c.size=ops.size->(∀j,j<ops.size->c[j]? = some (m.testBit j))->(∀j,ops.size<=j->m.testBit j=false)->
  planF (dataOf ops) π m=true->planOk ops π c=true
 | [],m,c,hsz,hl,hz,h=>by
  simp only[planF] at h
  have J:(dataOf ops).length=ops.size:=by
   have K:∀(M l:List OBits) (k:Nat),(clashes M l k).length=l.length:=by
    intro M l
    induction l with
    | nil=>intro k;rfl
    | cons x l ih=>intro k;simp[clashes,ih]
   simp[dataOf,K]
  rw[J] at h;simp only[planOk,List.isEmpty_iff];apply fu.2;intro j p;obtain ⟨Q,f,s,_⟩:=ej.1 p;have u:j<ops.size:=(aU.1 s).1;have F:=aKm h (t:=j) (by rw[iZ];simpa using u);have:=hl j u;simp[this,F] at Q
 | (q,i)::r,m,c,hsz,hl,hz,h=>by
  simp only[planF] at h;split at h
  ·cases h
  rename_i x hx;simp only[ay,cz] at h;obtain ⟨⟨⟨Q,Z⟩,R⟩,h4⟩:=h;have L:=hx;rw[dataOf,aFh,be] at L;obtain ⟨xb,N,rfl⟩:=L;rw[aG,be] at N;obtain ⟨o,ho,rfl⟩:=N;have B:ops[i]? = some o:=by simpa using ho
  have y:i<ops.size:=(aU.1 B).1
  have hD:∀j f,ops[j]? = some f->(dataOf ops)[j]? = some ((obits ops f).dep,clash j (obits ops f) (ops.toList.map (obits ops)) 0):=by
   intro j f p;have C:ops.toList[j]? = some f:=(by simpa using p);simp only[dataOf];rw[aFh,aG,C];simp
  have aJo:∀(f:Oper),inM (obits ops f).dep m=true↔∀e∈f.after,Region.binds .any e=true->m.testBit e.on=true:=by
   intro f;constructor
   ·intro K e D n
    refine aKm K ?_;simp only[obits,aAz,bh,cB];exact ⟨e,by simpa using D,by simp[n]⟩
   intro K;refine bLg fun t ht=>?_;simp only[obits,aAz,bh,cB] at ht;obtain ⟨e,D,v⟩:=ht;split at v
   ·rename_i n
    cases v
    exact K e (by simpa using D) n
   cases v
  have w:∀j f,ops[j]? = some f->(j∈Region.ready .any ops c↔m.testBit j=false/\inM (obits ops f).dep m=true):=by
   intro j f p;have u:j<ops.size:=(aU.1 p).1;rw[ej];constructor
   ·rintro ⟨E,ff,C,G⟩
    rw[p] at C;cases C;refine ⟨by simpa[hl j u] using E,(aJo f).2 fun e D n=>?_⟩;have:=G e D n;by_cases H:e.on<ops.size
    ·simpa[hl _ H] using this
    have hn:c[e.on]? = none:=(by rw[br];omega);simp[hn] at this
   rintro ⟨E,G⟩;refine ⟨by simp[hl j u,E],f,p,fun e D n=>?_⟩;have F:=(aJo f).1 G e D n;by_cases H:e.on<ops.size
   ·simp[hl _ H,F]
   rw[hz _ ω] at F
   cases F
  have z:planOk ops r (c.setIfInBounds i true)=true:=by
   refine aCz r (m ||| 2 ^ i) _ (by simp[hsz]) (fun j p=>?_) (fun j p=>by rw[cu,cF,hz j p];simp;omega) h4;rw[iQ];by_cases I:i=j
   ·subst I;simp[hsz,y,cu]
   rw[ah I,hl j p,cu,cF];simp[I]
  cases q with
  | true=>
   simp only[cond_true] at R;simp only[planOk,ay];refine ⟨⟨?_,?_⟩,z⟩
   ·simp only[Region.free,B,bF,bL,dt,gF]
    intro j p;by_cases O:j=i
    ·exact .inl (.inl O)
    cases hm:m.testBit j with
    | true=>exact .inl (.inr (by simp[hl j p,hm]))
    | false=>
     right;obtain ⟨f,s⟩:∃f,ops[j]? = some f:=⟨ops[j],cr p⟩;simp only[s,dt]
     have S:(clash (0+i) (obits ops o) (ops.toList.map (obits ops)) 0).testBit (0+j)=false:=by
      cases P:(clash (0+i) (obits ops o) (ops.toList.map (obits ops)) 0).testBit (0+j) with
      | false=>rfl
      | true=>
       have:=aKm R P;simp[hm] at this
     have T:(ops.toList.map (obits ops))[j]? = some (obits ops f):=by
      rw[aG];have:ops.toList[j]? = some f:=(by simpa using s);rw[this];rfl
     rcases aMx _ 0 j _ T S with g | g | g
     ·exact absurd ω O
     ·left
      simp only[obits,aAz,bh,cB] at g;obtain ⟨e,D,v⟩:=g;split at v
      ·rename_i n
       rw[kX];exact ⟨e,by simpa using D,by simp at v;simp[n,v]⟩
      cases v
     right;obtain ⟨E,G⟩:=g
     have U:∀(a b:Nat),a &&& b=0->∀t,a.testBit t=true->b.testBit t=true->False:=by
      intro a b V t ha F;have:=congrArg (·.testBit t) V;simp[iP,ha,F] at this
     simp only[Oper.apart,ay];constructor
     ·cases Y:o.dst with
      | none=>rfl
      | some d=>
       simp only[ay,cz,bne_iff_ne];have n:(obits ops o).dst.testBit d=true:=(by simp[obits,Y]);constructor
       ·cases P:(f.looksAt ops).contains d with
        | false=>rfl
        | true=>
         exfalso;refine U _ _ E d ?_ n;rw[show Nat.lor _ _=_ ||| _ from rfl,cu]
         have:(obits ops f).look.testBit d=true:=by
          simp only[obits,aAz,bh];simpa using P
         simp[this]
       intro W;refine U _ _ E d ?_ n;rw[show Nat.lor _ _=_ ||| _ from rfl,cu];have:(obits ops f).dst.testBit d=true:=(by simp[obits,W]);simp[this]
     cases Y:f.dst with
     | none=>rfl
     | some d=>
      simp only[cz]
      cases P:(o.looksAt ops).contains d with
      | false=>rfl
      | true=>
       exfalso;refine U _ _ G d ?_ ?_
       ·simp only[obits,aAz,bh];simpa using P
       simp[obits,Y]
   have:=(w i o B).2 ⟨Q,Z⟩;simpa using this
  | false=>
   simp only[cond_false] at R;simp only[planOk,ay,gF];refine ⟨?_,z⟩
   have A:∀j,j<ops.size->(j∈Region.ready .any ops c↔j=i):=by
    intro j p;obtain ⟨f,s⟩:∃f,ops[j]? = some f:=⟨ops[j],cr p⟩;rw[w j f s];constructor
    ·rintro ⟨E,G⟩
     rcases aQp _ 0 j _ R (hD j f s) with g | g | g
     ·omega
     ·simp[E] at g
     rw[G] at g;cases g
    rintro rfl;rw[B] at s;cases s;exact ⟨Q,Z⟩
   unfold Region.ready at A ⊢;refine aLz y ?_ ?_
   ·have:=(A i y).2 rfl
    exact (aX.1 this).2
   intro j p X;exact Bool.eq_false_iff.2 fun hp=>absurd ((A j p).1 (aX.2 ⟨bL.2 p,hp⟩)) X
def planChk (ops:Array Oper) (π:List (Bool×Nat)):Bool:=
 Region.noSelect ops && Nat.ble π.length ops.size && planF (dataOf ops) π 0 && (π.all fun x=>(ops[x.2]?).isSome && (match (ops[x.2]?).bind (·.guard) with | some (j,_)=>((ops[j]?).bind (·.dst)).isSome | none=>true))
theorem aAe {P:Program}{id:Nat}{a:Act}{w:World}(S:World->Prop) (π:List (Bool×Nat))(x:P.follows .mixedOrders=true)
  (k:planChk ops π=true)
  (d:S w.drew)
  (h:∀(T:World->Prop) (M:Addr->Option Value) (Q:Act->World->Prop),(∀w,S w->T w)->(∀w,T w->S w)->(∀p v,(∀w,S w->w.cell? p=some v)->M p=some v)->(∀a w,Q' .normal a w->Q a w)->wq P T M Q (cmp ops π) a w.drew) :
  (Code.region id ops true).wp P Q' a w:=by
 simp only[planChk,ay,kY] at k;obtain ⟨⟨⟨n,q⟩,r⟩,s⟩:=k;have m:planOk ops π (Array.replicate ops.size false)=true:=aCz π 0 _ (by simp) (fun j t=>by simp[t]) (fun j _=>by simp) r;refine aVx S π x (by simp only[ay,bh];exact ⟨⟨n,q⟩,m⟩) d ?_
 have f:∀p v,(Classical.epsilon fun o:Option Value=>∀v,o=some v↔∀w,S w->w.cell? p=some v)=some v↔∀w,S w->w.cell? p=some v:=by
  intro p
  have b:∃o:Option Value,∀v,o=some v↔∀w,S w->w.cell? p=some v:=by
   by_cases l:∃v,∀w,S w->w.cell? p=some v
   ·obtain ⟨v,i⟩:=l
    refine ⟨some v,fun u=>⟨fun e=>(by cases e;exact i),fun c=>?_⟩⟩;have g:=i _ d;rw[c _ d] at g;exact g.symm
   exact ⟨none,fun u=>⟨fun e=>(by cases e),fun c=>absurd ⟨u,c⟩ l⟩⟩
  exact fG b
 exact aBz (M:=fun p=>Classical.epsilon fun o:Option Value=>∀v,o=some v↔∀w,S w->w.cell? p=some v)
  (fun p v h=>(f p v).1 h) π a w.drew s (h S _ _ (fun _ h=>h) (fun _ h=>h) (fun p v h=>(f p v).2 h) (fun _ _ h=>h))
def qs:Nat->List (Bool×Nat)
 | 0=>[]
 | n+1=>qs n++[(true,n)]
def gO2 (b:Bool):Option Tmp->Option (Tmp×Bool)
 | some t=>some (t,b)
 | none=>none
def cmp2 (l:List Oper)(q:Bool):Option Oper->QOp
 | some o=>⟨q,o.dst,o.op,o.type,gOf l.toArray o.guard⟩
 | none=>⟨true,none,.panic (.const undef),0,none⟩
def qe (effs:List Nat):Nat->List (Bool×Nat)
 | 0=>[]
 | n+1=>qe effs n++[(!effs.contains n,n)]
theorem qcmp:
  (∀ops:Array Oper,cmp ops []=[])/\(∀(ops:Array Oper) (q:Bool) (i:Nat) (r:List (Bool×Nat)),cmp ops ((q,i)::r)=cmp1 ops q i::cmp ops r)/\
  (∀(l:List Oper) (q:Bool) (i:Nat),cmp1 l.toArray q i=cmp2 l q l[i]?)/\
  (∀(l:List Oper) (q:Bool) (d:Option Tmp) (o:Op) (t:TypeId) (p:String) (c:Array Edge),cmp2 l q (some ⟨d,o,t,p,c,none⟩)=⟨q,d,o,t,none⟩)/\
  (∀(l:List Oper) (q:Bool) (d:Option Tmp) (o:Op) (t:TypeId) (p:String) (c:Array Edge) (j:Nat) (b:Bool),cmp2 l q (some ⟨d,o,t,p,c,some (j,b)⟩)=⟨q,d,o,t,gO2 b (l[j]?.bind (·.dst))⟩)/\
  (∀(t:Tmp) (b:Bool),gO2 b (some t)=some (t,b))/\
  (qs 0=[])/\(∀n,qs (n+1)=qs n++[(true,n)])/\(∀e,qe e 0=[])/\(∀e n,qe e (n+1)=qe e n++[(!e.contains n,n)])/\
  (∀l:List (Bool×Nat),[]++l=l)/\(∀(x:Bool×Nat) (l m:List (Bool×Nat)),(x::l)++m=x::(l++m))/\
  (∀(x:Oper) (l:List Oper) (n:Nat),(x::l)[n+1]? = l[n]?)/\(∀(x:Oper) (l:List Oper),(x::l)[0]? = some x)/\
  (∀(o:Oper) (f:Oper->Option Tmp),(some o).bind f=f o)/\
  (∀a:Nat,([]:List Nat).contains a=false)/\(∀(a b:Nat) (l:List Nat),(b::l).contains a=(a == b || l.contains a))/\
  (∀b:Bool,(false || b)=b)/\(∀b:Bool,(true || b)=true)/\(∀b:Bool,(b || false)=b)/\((!true)=false)/\((!false)=true):=by
 repeat' (apply And.intro)
 all_goals first
  | (intros;rfl)
  | (intro l q d o t p c j b;simp only[cmp2,gOf];cases (l[j]?.bind (·.dst))<;>rfl)
  | (intros;simp;done)
theorem aAc:
  (∀n:Nat,n+0=n)/\(∀n:Nat,0+n=n)/\(∀n:Nat,n*1=n)/\(∀n:Nat,0*n=0)/\(∀n:Nat,(n:Int).toNat=n)/\((0:Int).toNat=0)/\
  (∀h:Decidable True,@decide True h=true)/\(∀h:Decidable False,@decide False h=false)/\((!true)=false)/\((!false)=true)/\
  (∀(x y:Value) (l:List Value),(x::l).set 0 y=y::l)/\(∀(x y:Value) (l:List Value) (n:Nat),(x::l).set (n+1) y=x::l.set n y)/\
  (∀(o:Operand) (a:Operand->Value),#[o].map a=#[a o]):=by
 repeat' (apply And.intro)
 all_goals first
  | (intros;rfl)
  | (intros;simp;done)
theorem aAg:
  lz prog 2=some 0/\
  ikOf prog 2=some .i64/\
  (prog.underlying 2).isSome=true/\
  lz prog 3=some 0/\
  ikOf prog 3=some .i64/\
  (prog.underlying 3).isSome=true/\
  lz prog 4=some 0/\
  lz prog 5=some 0/\
  ikOf prog 5=some .u8/\
  (prog.underlying 5).isSome=true/\
  lz prog 9=some 0/\
  es prog 9=none/\
  isStr prog 9=true/\
  lz prog 12=some 0/\
  ikOf prog 12=some .u64/\
  (prog.underlying 12).isSome=true/\
  lz prog 15=some 0/\
  lz prog 16=some 0/\
  lz prog 21=some 0/\
  ikOf prog 21=some .i32/\
  (prog.underlying 21).isSome=true/\
  lz prog 22=some 0/\
  es prog 22=some 3/\
  isStr prog 22=false/\
  ea prog 22=none/\
  lz prog 23=some 0/\
  es prog 23=some 2/\
  isStr prog 23=false/\
  ea prog 23=none/\
  lz prog 28=some 0/\
  ikOf prog 28=some .u64/\
  (prog.underlying 28).isSome=true/\
  lz prog 29=some 0/\
  es prog 29=some 3/\
  isStr prog 29=false/\
  ea prog 29=none/\
  lz prog 30=some 0/\
  es prog 30=some 3/\
  isStr prog 30=false/\
  ea prog 30=none/\
  fo prog 31 0=some 0/\
  fo prog 31 1=some 1/\
  fo prog 31 2=some 2/\
  fo prog 31 3=some 3/\
  fo prog 31 4=some 4/\
  lz prog 31=some 6/\
  fo prog 32 0=some 0/\
  fo prog 32 1=some 1/\
  fo prog 32 2=some 2/\
  fo prog 32 3=some 3/\
  fo prog 32 4=some 4/\
  lz prog 32=some 6/\
  lz prog 33=some 0/\
  ikOf prog 33=some .i64/\
  (prog.underlying 33).isSome=true/\
  lz prog 36=some 0/\
  es prog 36=some 1/\
  isStr prog 36=false/\
  ea prog 36=none/\
  fo prog 39 0=some 0/\
  fo prog 39 1=some 1/\
  fo prog 39 2=some 2/\
  lz prog 39=some 4/\
  fo prog 40 0=some 0/\
  fo prog 40 1=some 1/\
  fo prog 40 2=some 2/\
  lz prog 40=some 4/\
  fo prog 42 0=some 0/\
  fo prog 42 1=some 1/\
  lz prog 42=some 3/\
  fo prog 43 0=some 0/\
  fo prog 43 1=some 1/\
  lz prog 43=some 3/\
  fo prog 47 0=some 0/\
  fo prog 47 1=some 1/\
  fo prog 47 2=some 2/\
  lz prog 47=some 4/\
  fo prog 48 0=some 0/\
  fo prog 48 1=some 1/\
  fo prog 48 2=some 2/\
  lz prog 48=some 4/\
  fo prog 51 0=some 0/\
  fo prog 51 1=some 1/\
  lz prog 51=some 3/\
  fo prog 52 0=some 0/\
  fo prog 52 1=some 1/\
  lz prog 52=some 3/\
  lz prog 53=some 0/\
  es prog 53=some 2/\
  isStr prog 53=false/\
  ea prog 53=none/\
  lz prog 74=some 0/\
  lz prog 81=some 0/\
  es prog 81=some 2/\
  isStr prog 81=false/\
  ea prog 81=none/\
  lz prog 83=some 0/\
  fo prog 84 0=some 0/\
  fo prog 84 1=some 1/\
  lz prog 84=some 3/\
  fo prog 85 0=some 0/\
  fo prog 85 1=some 1/\
  lz prog 85=some 3/\
  fo prog 93 0=some 0/\
  fo prog 93 1=some 1/\
  fo prog 93 2=some 2/\
  lz prog 93=some 4/\
  fo prog 94 0=some 0/\
  fo prog 94 1=some 1/\
  fo prog 94 2=some 2/\
  lz prog 94=some 4/\
  lz prog 102=some 0/\
  es prog 102=some 1/\
  isStr prog 102=false/\
  ea prog 102=none/\
  fo prog 108 0=some 0/\
  fo prog 108 1=some 1/\
  fo prog 108 2=some 2/\
  fo prog 108 3=some 3/\
  fo prog 108 4=some 4/\
  fo prog 108 5=some 5/\
  lz prog 108=some 11/\
  fo prog 109 0=some 0/\
  fo prog 109 1=some 1/\
  fo prog 109 2=some 2/\
  fo prog 109 3=some 3/\
  fo prog 109 4=some 4/\
  fo prog 109 5=some 5/\
  lz prog 109=some 11/\
  lz prog 122=some 0/\
  fo prog 124 0=some 0/\
  lz prog 124=some 2/\
  fo prog 125 0=some 0/\
  lz prog 125=some 2/\
  lz prog 128=some 0/\
  es prog 128=some 1/\
  isStr prog 128=false/\
  ea prog 128=none/\
  fo prog 131 0=some 0/\
  fo prog 131 1=some 1/\
  lz prog 131=some 3/\
  fo prog 132 0=some 0/\
  fo prog 132 1=some 1/\
  lz prog 132=some 3/\
  lz prog 133=some 0/\
  es prog 133=some 4/\
  isStr prog 133=false/\
  ea prog 133=none/\
  lz prog 135=some 0/\
  es prog 135=some 1/\
  isStr prog 135=false/\
  ea prog 135=none/\
  lz prog 140=some 5/\
  ea prog 140=some (4,1)/\
  es prog 140=none/\
  fo prog 142 0=some 0/\
  fo prog 142 1=some 1/\
  fo prog 142 2=some 2/\
  fo prog 142 3=some 3/\
  lz prog 142=some 5/\
  fo prog 143 0=some 0/\
  fo prog 143 1=some 1/\
  fo prog 143 2=some 2/\
  fo prog 143 3=some 3/\
  lz prog 143=some 5/\
  lz prog 146=some 0/\
  es prog 146=some 1/\
  isStr prog 146=false/\
  ea prog 146=none/\
  lz prog 147=some 0/\
  es prog 147=some 1/\
  isStr prog 147=false/\
  ea prog 147=none/\
  lz prog 153=some 0/\
  lz prog 166=some 0/\
  ikOf prog 166=some .u64/\
  (prog.underlying 166).isSome=true/\
  lz prog 167=some 0/\
  es prog 167=some 1/\
  isStr prog 167=false/\
  ea prog 167=none/\
  fo prog 171 0=some 0/\
  lz prog 171=some 2/\
  fo prog 172 0=some 0/\
  lz prog 172=some 2/\
  lz prog 177=some 0/\
  lz prog 179=some 0/\
  fo prog 180 0=some 0/\
  fo prog 180 1=some 1/\
  lz prog 180=some 3/\
  fo prog 181 0=some 0/\
  fo prog 181 1=some 1/\
  lz prog 181=some 3/\
  lz prog 188=some 0/\
  es prog 188=some 1/\
  isStr prog 188=false/\
  ea prog 188=none/\
  lz prog 190=some 0/\
  es prog 190=some 2/\
  isStr prog 190=false/\
  ea prog 190=none/\
  fo prog 192 0=some 0/\
  fo prog 192 1=some 1/\
  lz prog 192=some 3/\
  fo prog 193 0=some 0/\
  fo prog 193 1=some 1/\
  lz prog 193=some 3/\
  lz prog 197=some 0/\
  lz prog 198=some 0/\
  lz prog 200=some 0/\
  fo prog 202 0=some 0/\
  lz prog 202=some 2/\
  fo prog 203 0=some 0/\
  lz prog 203=some 2/\
  lz prog 211=some 0/\
  lz prog 212=some 0/\
  fo prog 213 0=some 0/\
  fo prog 213 1=some 1/\
  fo prog 213 2=some 2/\
  lz prog 213=some 4/\
  fo prog 214 0=some 0/\
  fo prog 214 1=some 1/\
  fo prog 214 2=some 2/\
  lz prog 214=some 4/\
  fo prog 215 0=some 0/\
  lz prog 215=some 2/\
  fo prog 216 0=some 0/\
  lz prog 216=some 2/\
  lz prog 226=some 0/\
  lz prog 228=some 0/\
  lz prog 229=some 0/\
  es prog 229=some 2/\
  isStr prog 229=false/\
  ea prog 229=none/\
  fo prog 230 0=some 0/\
  fo prog 230 1=some 1/\
  fo prog 230 2=some 2/\
  fo prog 230 3=some 3/\
  fo prog 230 4=some 4/\
  fo prog 230 5=some 5/\
  lz prog 230=some 7/\
  fo prog 231 0=some 0/\
  fo prog 231 1=some 1/\
  fo prog 231 2=some 2/\
  fo prog 231 3=some 3/\
  fo prog 231 4=some 4/\
  fo prog 231 5=some 5/\
  lz prog 231=some 7/\
  fo prog 233 0=some 0/\
  fo prog 233 1=some 1/\
  lz prog 233=some 3/\
  fo prog 234 0=some 0/\
  fo prog 234 1=some 1/\
  lz prog 234=some 3/\
  lz prog 240=some 0/\
  lz prog 241=some 0/\
  fo prog 242 0=some 0/\
  fo prog 242 1=some 1/\
  lz prog 242=some 3/\
  fo prog 243 0=some 0/\
  fo prog 243 1=some 1/\
  lz prog 243=some 3/\
  fo prog 244 0=some 0/\
  lz prog 244=some 3/\
  fo prog 245 0=some 0/\
  lz prog 245=some 3/\
  lz prog 250=some 0/\
  ikOf prog 250=some .i64/\
  (prog.underlying 250).isSome=true/\
  lz prog 257=some 0/\
  ikOf prog 257=some .u32/\
  (prog.underlying 257).isSome=true/\
  lz prog 269=some 0/\
  lz prog 271=some 0/\
  fo prog 272 0=some 0/\
  fo prog 272 1=some 1/\
  lz prog 272=some 3/\
  fo prog 273 0=some 0/\
  fo prog 273 1=some 1/\
  lz prog 273=some 3/\
  lz prog 276=some 0/\
  fo prog 277 0=some 0/\
  fo prog 277 1=some 1/\
  fo prog 277 2=some 2/\
  fo prog 277 3=some 3/\
  fo prog 277 4=some 4/\
  fo prog 277 5=some 6/\
  lz prog 277=some 8/\
  fo prog 278 0=some 0/\
  fo prog 278 1=some 1/\
  fo prog 278 2=some 2/\
  fo prog 278 3=some 3/\
  fo prog 278 4=some 4/\
  fo prog 278 5=some 6/\
  lz prog 278=some 8/\
  lz prog 288=some 0/\
  lz prog 289=some 0/\
  ikOf prog 289=some .u64/\
  (prog.underlying 289).isSome=true/\
  lz prog 293=some 0/\
  lz prog 313=some 0/\
  lz prog 315=some 0/\
  lz prog 321=some 0/\
  es prog 321=some 1/\
  isStr prog 321=false/\
  ea prog 321=none/\
  lz prog 326=some 0/\
  lz prog 329=some 0/\
  lz prog 332=some 257/\
  ea prog 332=some (256,1)/\
  es prog 332=none/\
  fo prog 333 0=some 0/\
  fo prog 333 1=some 1/\
  lz prog 333=some 3/\
  fo prog 334 0=some 0/\
  fo prog 334 1=some 1/\
  lz prog 334=some 3/\
  lz prog 335=some 33/\
  ea prog 335=some (16,2)/\
  es prog 335=none/\
  lz prog 339=some 0/\
  es prog 339=some 1/\
  isStr prog 339=false/\
  ea prog 339=none/\
  fo prog 341 0=some 0/\
  fo prog 341 1=some 1/\
  lz prog 341=some 3/\
  fo prog 342 0=some 0/\
  fo prog 342 1=some 1/\
  lz prog 342=some 3:=
 by
 repeat' apply And.intro
 all_goals kernel_rfl
theorem mixed:prog.follows .mixedOrders=true:=T
structure Rd (w:World) (B sz:Nat) (A:Option Addr) (n c:Nat) (xs:List Value):Prop where
 len:xs.length=n*sz
 cap:n<=c
 at_:0<n->∃b o:Nat,A=some ⟨b,o,none⟩/\b<B/\∀j u,xs[j]? = some u->w.cell? ⟨b,o+j,none⟩=some u
theorem Rd.one {w:World}{B n c:Nat}{A:Option Addr}{xs:List Value}(h:Rd w B 1 A n c xs){k:Nat}(g:k<n) :
  ∃b o u,A=some ⟨b,o,none⟩/\b<B/\xs[k]? = some u/\w.cell? ⟨b,o+k,none⟩=some u:=by
 obtain ⟨b,o,e,d,f⟩:=h.at_ O;have a:k<xs.length:=by have:=h.len;omega
 exact ⟨b,o,xs[k],e,d,ac a,f k _ (ac a)⟩
theorem Rd.str {w:World}{B n c:Nat}{A:Option Addr}{l:List ByteArray}(h:Rd w B 1 A n c (l.map .string)){k:Nat}(i:k<n) :
  ∃b o u,A=some ⟨b,o,none⟩/\b<B/\l[k]? = some u/\w.cell? ⟨b,o+k,none⟩=some (.string u):=by
 obtain ⟨b,o,u,e,f,a,g⟩:=h.one i;rw[aG] at a
 cases d:l[k]? with
 | none=>rw[d] at a;cases a
 | some s=>rw[d] at a;cases a;exact ⟨b,o,s,e,f,rfl,g⟩
theorem aBi {u v:ByteArray}(h:u≠v):(u.toList == v.toList)=false:=(jP u v).2 h
theorem aEs {u v:Int}(h:u≠v):(u == v)=false/\(u != v)=true:=by
 have a:(u == v)=false:=a7.2 h;exact ⟨a,by rw[bne,a];rfl⟩
theorem aAi {a b:Bool}(h:a=b):Ending.returned (.bool a)=.returned (.bool b):=by rw[h]
theorem bGs {α:Type}{xs ys:List α}(h:xs.length=ys.length)(a:∀j,j<xs.length->xs[j]? = ys[j]?):xs=ys:=by
 apply bM;intro i;by_cases b:i<xs.length
 ·exact a i b
 rw[bH O,bH O]
theorem bHx(a:Addr)(n:Nat):(a.add n).block=a.block:=by unfold Addr.add;split<;>rfl
section
variable {w w':World} {B B' sz n c:Nat} {A:Option Addr} {xs:List Value}
theorem Rd.none_(w:World)(B sz:Nat):Rd w B sz none 0 0 []:=⟨by simp,aa _,fun h=>absurd h O⟩
theorem Rd.keep(h:Rd w B sz A n c xs)(i:∀p:Addr,p.block<B->w'.cell? p=w.cell? p):Rd w' B sz A n c xs:=
 ⟨h.len,h.cap,fun f=>by
  obtain ⟨b,o,e,a,d⟩:=h.at_ f;exact ⟨b,o,e,a,fun j u g=>(i _ a).trans (d j u g)⟩⟩
theorem Rd.more(h:Rd w B sz A n c xs)(g:B<=B'):Rd w B' sz A n c xs:=
 ⟨h.len,h.cap,fun d=>by obtain ⟨b,o,e,f,a⟩:=h.at_ d;exact ⟨b,o,e,O,a⟩⟩
theorem Rd.below(h:Rd w B sz A n c xs)(b:Below B w w'):Rd w' B sz A n c xs:=h.keep fun _ a=>b.cell a
theorem Rd.to(h:Rd w B sz A n c xs)(a:Below B w w')(b:B<=B'):Rd w' B' sz A n c xs:=(h.below a).more b
theorem Rd.drew(h:Rd w B sz A n c xs):Rd w.drew B sz A n c xs:=⟨h.len,h.cap,h.at_⟩
theorem Rd.grown(h:Rd w B sz A n c xs){row:Option Nat}(a:w.grownBy w' row)(f:B<=w.heap.size)(b:∀g,row=some g->B<=g):Rd w' B sz A n c xs:=
 h.keep fun p d=>cw (a.block p.block O (fun e=>by have:=b _ e.symm;omega))
theorem Rd.cut(h:Rd w B sz A n c xs){l k:Nat}(m:l<=k)(f:k<=n) :
  Rd w B sz (if c=l then A else A.map (·.add (l*sz))) (k-l) (c-l) ((xs.take (k*sz)).drop (l*sz)):=by
 have g:=h.cap;refine ⟨by rw[aN,aE,h.len,bP (cd _ f),Nat.sub_mul],O,fun i=>?_⟩;obtain ⟨b,o,rfl,e,a⟩:=h.at_ O;rw[ah O];refine ⟨b,o+l*sz,by simp[Addr.add];try (split<;>simp_all),e,fun j u d=>?_⟩;rw[bO,fH] at d;split at d
 ·rw[dI];exact a _ u d
 cases d
theorem Rd.cut1(h:Rd w B 1 A n c xs){l k:Nat}(a:l<=k)(b:k<=n) :
  Rd w B 1 (if c=l then A else A.map (·.add l)) (k-l) (c-l) ((xs.take k).drop l):=by
 have:=h.cut a b;simpa using this
theorem Rd.of_own {base:Nat}{e:TypeId}(h:w.ownsRow base e sz (.slice A n c) n xs)(l:n<=c):Rd w w.heap.size sz A n c xs:=by
 refine ⟨h.1,l,fun i=>?_⟩;obtain ⟨g,cap,f,_,b⟩:=h.form i;have d:A=some ⟨g,0,none⟩:=by injection f
 subst d;refine ⟨g,0,rfl,b,fun j u k=>?_⟩;have:=h.cells (g:=g) rfl j u k;have a:(⟨g,0,none⟩:Addr).add j=⟨g,0+j,none⟩:=by unfold Addr.add;split<;>simp_all
 rwa [a] at this
end
theorem aAd {w:World}{base:Nat}{e:TypeId}{sz n:Nat}{v:Value}{xs:List Value}(h:w.ownsRow base e sz v n xs):∃A c,v=.slice A n c/\n<=c:=by
 rcases h.2 with ⟨rfl,rfl⟩ | ⟨g,cap,a,rfl,_,_,b,_⟩
 ·exact ⟨none,0,rfl,aa _⟩
 exact ⟨_,cap,rfl,b⟩
def BoolBelow (b:Bool)(w:World)(e:Ending) (w':World):Prop:=e=.returned (.bool b)/\Below w.heap.size w w'
def isGo (P:Program)(f:FuncId):Bool:=
 match P.funcs[f]? with
 | some fn => !(fn.name == "runtime.NumGoroutine") && fn.body.isSome
 | none=>false
theorem bBu {P:Program}{f:FuncId}(h:isGo P f=true)(args:Array Value)(w:World):(callFunc f args).run P w=.ok (.enter f args) w:=by
 unfold isGo at h;split at h
 ·rename_i a d
  simp only[ay,cz] at h;have b:¬a.body=none:=by intro e;simp[e] at h
  have c : ¬ a.name = "runtime.NumGoroutine" := by have := h.1; simpa using this
  simp[callFunc,d,c,b]
 cases h
section
variable {P:Program} {S:World->Prop} {a:Act} {w:World} {K:Act->World->Prop}
theorem aAh {b:Option Tmp}{f:Operand}{args:Array Operand}{d:Array TypeId}{ty:TypeId}{q:Bool}{g:Option (Tmp×Bool)}{F:FuncId}{h:Array Value}{R:Ending->World->Prop}
  (n:isGo P F=true) (o:Calls P F h w R) (r:a.eval f=.func (.func F) #[] #[]) (ha:(args.toList.map a.eval).toArray=h)
  (s:∀e w',R e w'->∃v,e=.returned v/\S w'/\K (a.put b v) w') :
  effq P S ⟨q,b,.call ⟨.value f,args,d⟩,ty,g⟩ a w K:=by
 intro p j g;unfold Oper.wp
 have c:(execOp a.eval ⟨b,.call ⟨.value f,args,d⟩,ty,p,j,g⟩).run P w=.ok (.enter F h) w:=by
  have i:args.map a.eval=h:=by rw[<-ha];apply dX.1;simp
  simp[execOp,resolve,invoke,r,i,Deferred.ofValue,bBu n]
 rw[c];refine iF o fun e w' m=>?_;obtain ⟨v,rfl,k,l⟩:=s e w' m;exact ⟨k,l⟩
theorem aIp(w:World)(base:Nat)(t ty e:TypeId)(i:TypeInfo)(z:Value)(a bytes:Nat)(E:P.underlying t=some (.slice e))(F:P.info? e=some i)(T:i.zero=some z)
  (p:i.size=a) (G:i.bytes=bytes) (H:z.cells.size=a) (I:0<a)
  (v:Value) (n:Nat) (xs:List Value) (d:w.ownsRow base e a v n xs)
  (B:Nat) (A:Option Addr) (m c:Nat) (news:List Value) (y:Rd w B a A m c news) (U:∀u∈news,u.oneCell'=true)
  (J:n+m<=maxLen) (k:(n+m)*bytes<=140737488355328) (q:base<=w.heap.size) :
  ∃r w',(Builtin.append_ #[t,t] ty #[v,.slice A m c]).run P w=.ok r w'/\w'.ownsRow base e a r (n+m) (xs++news)/\w.grownBy w' v.ownBlock/\
   (r.ownBlock=v.ownBlock\/r.ownBlock=some w.heap.size):=by
 rcases A with _ | L
 ·have M:m=0:=by
   rcases cV m with l | l
   ·exact l
   obtain ⟨b,o,h,_⟩:=y.at_ l
   cases h
  subst M;have C:news=[]:=bC (by simpa using y.len);subst C;refine ⟨v,w,?_,by simpa using d,cW w _,.inl rfl⟩;rcases d.2 with ⟨rfl,rfl⟩ | ⟨g,cap,S,rfl,_,_,D,_⟩
  ·simp[Builtin.append_,bK E,sizeOf,typeInfo,F,Builtin.lenOf,Builtin.firstCells]
  simp[Builtin.append_,bK E,sizeOf,typeInfo,F,Builtin.lenOf,Builtin.firstCells,D,storeCells]
 have f:∀j u,news[j]? = some u->w.cell? (L.add j)=some u:=by
  intro j u K;rcases cV m with l | l
  ·subst l
   have C:news=[]:=bC (by simpa using y.len);subst C;simp at K
  obtain ⟨b,o,h,_,N⟩:=y.at_ l
  cases h
  have s:(⟨b,o,none⟩:Addr).add j=⟨b,o+j,none⟩:=by unfold Addr.add;split<;>simp_all
  rw[s];exact N j u K
 obtain ⟨r,w',x,O,Q,_,R⟩:=run_append_own_at (P:=P) w base t ty e i z a bytes E F T p G H I v n xs d L m c news y.len f U J k q;exact ⟨r,w',x,O,Q,R⟩
structure Elem (P:Program) (t e:TypeId) (size bytes:Nat):Prop where
 und:P.underlying t=some (.slice e)
 row:∃i z,P.info? e=some i/\i.zero=some z/\i.size=size/\i.bytes=bytes/\z.cells.size=size
 pos:0<size
def elemB (P:Program)(t e:TypeId)(size bytes:Nat):Bool:=
 (match P.underlying t with | some (.slice e')=>Nat.beq e e' | _=>false) &&
 (match P.info? e with | some i=>(match i.zero with | some z=>Nat.beq z.cells.size size | none=>false) && Nat.beq i.size size && Nat.beq i.bytes bytes | none=>false) && Nat.ble 1 size
theorem aCa {P:Program}{t e:TypeId}{a bytes:Nat}(h:elemB P t e a bytes=true):Elem P t e a bytes:=by
 unfold elemB at h;simp only[ay] at h;obtain ⟨⟨c,b⟩,f⟩:=h;refine ⟨?_,?_,Nat.le_of_ble_eq_true f⟩
 ·split at c
  ·rename_i n g;rw[g,dW c]
  cases c
 split at b
 ·rename_i i j
  simp only[ay] at b;obtain ⟨⟨d,k⟩,l⟩:=b;split at d
  ·rename_i z m
   exact ⟨i,z,j,m,dW k,dW l,dW d⟩
  cases d
 cases b
theorem aAo {k:Option Tmp}{s x:Operand}{t ty:TypeId}{q:Bool}{g:Option (Tmp×Bool)}{e:TypeId}{b bytes:Nat}(E:Elem P t e b bytes){base:Nat}
  {v:Value} {n:Nat} {xs:List Value} {B:Nat} {A:Option Addr} {m c:Nat} {news:List Value}
  (J:a.eval s=v) (L:a.eval x=.slice A m c) (l:w.ownsRow base e b v n xs) (M:Rd w B b A m c news) (N:∀u∈news,u.oneCell'=true)
  (C:n+m<=maxLen) (d:(n+m)*bytes<=140737488355328) (f:base<=w.heap.size)
  (O:∀h w',w'.ownsRow base e b h (n+m) (xs++news)->w.grownBy w' v.ownBlock->(h.ownBlock=v.ownBlock\/h.ownBlock=some w.heap.size)->S w'/\K (a.put k h) w') :
  effq P S ⟨q,k,.call ⟨.builtin .append,#[s,x],#[t,t]⟩,ty,g⟩ a w K:=by
 intro p Q g;obtain ⟨i,z,D,F,o,r,y⟩:=E.row;obtain ⟨h,w',j,G,H,I⟩:=aIp (P:=P) w base t ty e i z b bytes E.und D F o r y E.pos v n xs l B A m c news M N C d f;unfold Oper.wp execOp;simp only[resolve,invoke,builtin,bT,cE,bI,gT,dc,dK,J,L,j];exact O h w' G H I
theorem aAl {rest:List Oper}{o:Oper}{Q:Exit->Act->World->Prop}(r:o.guard=none)(s x:Operand)(t:TypeId)
  (I:o.op=.call { callee:=.builtin .append,args:=#[s,x],argTypes:=#[t,t] }) {e:TypeId} {b bytes:Nat} (E:Elem P t e b bytes) {base:Nat}
  {v:Value} {n:Nat} {xs:List Value} {B:Nat} {A:Option Addr} {m c:Nat} {news:List Value}
  (J:a.eval s=v) (L:a.eval x=.slice A m c) (j:w.ownsRow base e b v n xs) (M:Rd w B b A m c news) (N:∀u∈news,u.oneCell'=true)
  (y:n+m<=maxLen) (d:(n+m)*bytes<=140737488355328) (f:base<=w.heap.size)
  (O:∀g w',w'.ownsRow base e b g (n+m) (xs++news)->w.grownBy w' v.ownBlock->(g.ownBlock=v.ownBlock\/g.ownBlock=some w.heap.size)->wpList P ops Q rest (a.put o.dst g) w') :
  wpList P ops Q (o::rest) a w:=by
 obtain ⟨i,z,C,D,k,l,p⟩:=E.row;refine wpList_plain r fun K q=>?_;obtain ⟨g,w',h,F,G,H⟩:=aIp (P:=P) w base t o.type e i z b bytes E.und C D k l p E.pos v n xs j B A m c news M N y d f;unfold Oper.wp execOp;simp only[I,resolve,invoke,builtin,bT,cE,bI,gT,dc,dK,J,L,h];exact q _ _ (O g w' F G H)
end
theorem aAt(l:List ByteArray):∀u∈l.map Value.string,u.oneCell'=true:=by
 intro u a;obtain ⟨s,_,rfl⟩:=ce.1 a;rfl
open Go.ChangeShapes Go.WideShapes Go.ChangeAt Go.RowKit
theorem Tryz.own:ownKnob prog.godebug=none:=T
theorem Tryz.laidOut:laidOutB prog=true:=T
section
variable {H:Type} {enc:TypeId×Value->H}
theorem aJf {P:Program}(i:laidOutB P=true) {W j:World}(k:Below W.heap.size W j):∀{c:List TypeId} {e:List Value} {f:List (DataW H)} {ps:List MemPlace},
  (c.all fun t=>P.readableRec t && decide (t<P.types.size))=true->
  DataW.TrodAll enc P W 0 (fun _=>true) true c e f ps->(∀x∈ps,x.block<W.heap.size)->
  DataW.TrodAll enc P j 0 (fun b=>decide (b<W.heap.size)) true c e f ps
 | [],e,f,ps,_,h,_=>by
  obtain ⟨rfl,rfl,rfl⟩:=trodAll_nil h;exact trodAll_mk0
 | t::c,e,f,ps,hr,h,hlt=>by
  obtain ⟨v,l,d,m,p,q,rfl,rfl,rfl,n,a⟩:=trodAll_cons h;simp only[jI,ay,bh] at hr;obtain ⟨⟨o,r⟩,s⟩:=hr;exact ⟨p,q,Below.trod i o r n k (fun x g=>hlt x (by simp[g])),aJf i k s a (fun x g=>hlt x (by simp[g])),rfl⟩
theorem bFp {f:Func}{s:ChangeSpec}{W:World}{args:Array Value}{a:List (DataW H)}{p:List MemPlace}
  (g:DataW.Whole enc prog f.params.toList s.vars false W args.toList a [] (p++[]))
  (k:DataW.TrodAll enc prog W 0 (fun _=>true) true f.params.toList args.toList a p)
  (l:s.vars=[]) (b:f.resultTypes=#[4]) (c:(f.params.toList.all fun t=>prog.readableRec t && decide (t<prog.types.size))=true)
  (m:(s.fn H (a++[])).results=[.lit (.bool true)]) (ea:(s.fn H (a++[])).args=a) (n:(s.fn H (a++[])).vars=[])
  {e:Ending} {i:World} (h:BoolBelow true W e i) :
  ∃v,e=.returned v/\s.post enc prog f false true false false W args v i:=by
 obtain ⟨rfl,d⟩:=h;refine ⟨_,rfl,_,_,_,[]++[],p,[],g,?_,?_,?_,d.frame _,fun h=>by cases h⟩
 ·rw[m,b];exact trodAll_mk1 (shut_bool T true)
 ·rw[ea]
  exact aJf Tryz.laidOut d c k (fun x j=>by simpa using g.lt x (by simp[j]))
 rw[n,l];rfl
end
structure MV where
 old:Int
 A:Option Addr
 c:Nat
 new:List Int
def MV.cells (m:MV):List Value:=[.int .i64 m.old,.slice m.A m.new.length m.c]
def nexts (ms:List MV)(k:Int):List Int:=ms.flatMap fun m=>if m.old=k then m.new else []
def obsM (ms:List MV)(k:Int):Bool:=ms.any fun m=>decide (m.old=k)
def okM (n:Int)(m:MV):Bool:=decide (0<=m.old) && decide (m.old<n) && decide (m.new.length<=2000) && m.new.all fun x=>decide (m.old<x) && decide (x<n)
def rightM (n:Int)(ms:List MV):Bool:=ms.all (okM n)
def fewM (ms:List MV):Bool:=ms.all (fun m=>decide (m.new.length<=12)) && decide (ms.length<=2100)
inductive Reach (ms:List MV) (i:Int):Int->Prop
 | refl:Reach ms i i
 | step {k x:Int}:Reach ms i k->x∈nexts ms k->k<x->Reach ms i x
structure FinalIs (ms:List MV) (i:Int) (l:List Int):Prop where
 sorted:l.Pairwise (·<·)
 mem:∀x,x∈l↔Reach ms i x/\obsM ms x=false
structure NextIs (ms:List MV) (i:Int) (l:List Int):Prop where
 sorted:l.Pairwise (·<·)
 mem:∀x,x∈l↔x∈nexts ms i
theorem aSo(ms:List MV)(m:MV)(k:Int):obsM (ms++[m]) k=(obsM ms k || decide (m.old=k)):=by
 unfold obsM;simp
def univ (ms:List MV)(i:Int):List Int:=i::ms.flatMap (·.new)
structure PlaceIs (l:List Int) (v:Int) (k:Nat):Prop where
 le:k<=l.length
 after:∀j x,k<=j->l[j]? = some x->v<x
 at_:k=0\/∃x,l[k-1]? = some x/\x<=v
structure AddIs (l:List Int) (v:Int) (l':List Int):Prop where
 len:l'.length<=l.length+1
 mem:∀x,x∈l'↔x∈l\/x=v
 sorted:l.Pairwise (·<·)->l'.Pairwise (·<·)
structure FinInv (ms:List MV) (i:Int) (done todo:List Int):Prop where
 nd:(done++todo).Nodup
 univ:∀x∈done++todo,x∈univ ms i
 start:i∈done++todo
 reach:∀x∈done++todo,Reach ms i x
 closed:∀k∈done,∀x∈nexts ms k,k<x->x∈done++todo
structure FinMid (ms:List MV) (i:Int) (done:List Int) (k:Int) (t:Nat) (todo:List Int):Prop where
 nd:((done++[k])++todo).Nodup
 univ:∀x∈(done++[k])++todo,x∈univ ms i
 start:i∈(done++[k])++todo
 reach:∀x∈(done++[k])++todo,Reach ms i x
 closed:∀k'∈done,∀x∈nexts ms k',k'<x->x∈(done++[k])++todo
 part:∀x∈(nexts ms k).take t,k<x->x∈(done++[k])++todo
structure RefInv (ms:List MV) (i:Int) (seen todo out:List Int):Prop where
 start:∀x∈nexts ms i,i<x->x∈seen\/x∈todo
 gt:∀x∈seen,i<x
 reach:∀x∈seen,Reach ms i x
 todoR:∀x∈todo,i<x->Reach ms i x
 closed:∀k∈seen,∀x∈nexts ms k,k<x->x∈seen\/x∈todo
 nd:seen.Nodup
 univ:∀x∈seen,x∈univ ms i
 todoU:∀x∈todo,x∈Proofs.YtohblmepajhpaaaGreatDoor.univ ms i
 sorted:out.Pairwise (·<·)
 out:∀x,x∈out↔x∈seen/\obsM ms x=false
structure RefMid (ms:List MV) (i:Int) (seen:List Int) (x:Int) (more:List Int) (t:Nat) (todo out:List Int):Prop where
 start:∀x∈nexts ms i,i<x->x∈seen\/x∈todo
 gt:∀x∈seen,i<x
 mem:x∈seen
 reach:∀x∈seen,Reach ms i x
 todoR:∀x∈todo,i<x->Reach ms i x
 closed:∀k∈seen,k≠x->∀x∈nexts ms k,k<x->x∈seen\/x∈todo
 part:∀y∈more.take t,x<y->y∈seen\/y∈todo
 nd:seen.Nodup
 univ:∀x∈seen,x∈univ ms i
 todoU:∀x∈todo,x∈Proofs.YtohblmepajhpaaaGreatDoor.univ ms i
 sorted:out.Pairwise (·<·)
 out:∀x,x∈out↔x∈seen/\obsM ms x=false
theorem bFe {ms:List MV}{k:Int}:obsM ms k=true↔∃m∈ms,m.old=k:=by
 unfold obsM;rw[bZ];simp
def Rising (ms:List MV):Prop:=∀m∈ms,∀x∈m.new,m.old<x
def AllIs (ms:List MV)(next:List Int)(t:Nat)(all:List Int):Prop:=∀x,x∈all↔∃y∈next.take t,Reach ms y x/\obsM ms x=false
structure ChainIs (n:Nat) (ms:List MV):Prop where
 len:ms.length=n-1
 at_:∀(k:Nat) (m:MV),ms[k]? = some m->m.old=(k:Int)/\m.new=[(k:Int)+1]
theorem aWw(n:Int)(ms:List MV)(m:MV):rightM n (ms++[m])=(rightM n ms && okM n m):=by
 unfold rightM;simp
end Go.Proofs.YtohblmepajhpaaaGreatDoor
