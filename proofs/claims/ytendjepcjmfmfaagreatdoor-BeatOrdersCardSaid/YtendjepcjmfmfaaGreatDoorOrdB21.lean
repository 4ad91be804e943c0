/- Part 21 of 47 of the proof of the law: contracts of the functions that it reaches, and plain facts. Conditions: those that each contract names. -/
import Derived.WalkKit
namespace Go.Proofs.YtendjepcjmfmfaaGreatDoor
theorem lin_bd {k v H B : Int} (hv : -H ≤ v ∧ v ≤ H) (hk : -B ≤ k ∧ k ≤ B) (hB : 0 ≤ B) : -(H * B) ≤ k * v ∧ k * v ≤ H * B := by
 have h : (k * v).natAbs ≤ B.natAbs * H.natAbs := by rw [Int.natAbs_mul]; exact Nat.mul_le_mul (by omega) (by omega)
 have h2 : ((B.natAbs * H.natAbs : Nat) : Int) = H * B := by rw [Int.natCast_mul, Int.mul_comm]; congr 1 <;> omega
 omega
theorem form_zero {U c p1 p2 p3 B1 B2 B3 : Int} (hU : 0 < U) (he : U * c = p1 + p2 + p3) (h1 : -B1 ≤ p1 ∧ p1 ≤ B1) (h2 : -B2 ≤ p2 ∧ p2 ≤ B2) (h3 : -B3 ≤ p3 ∧ p3 ≤ B3) (hB : B1 + B2 + B3 < U) : c = 0 := by
 rcases Int.lt_trichotomy c 0 with h | h | h
 ·have : U * c ≤ U * (-1) := Int.mul_le_mul_of_nonneg_left (by omega) (by omega)
  omega
 ·exact h
 ·have : U * 1 ≤ U * c := Int.mul_le_mul_of_nonneg_left (by omega) (by omega)
  omega
theorem form_at {x y z M U T F H Mx : Int} (a b d : Int) (hM : M = x * U + y * T + z * F) (hU : 0 < U) (hMx : -Mx ≤ M ∧ M ≤ Mx) (hy : -H ≤ y ∧ y ≤ H) (hz : -H ≤ z ∧ z ≤ H)
  (B1 B2 B3 : Int) (h1 : -B1 ≤ a ∧ a ≤ B1) (h2 : -B2 ≤ b * U - a * T ∧ b * U - a * T ≤ B2) (h3 : -B3 ≤ d * U - a * F ∧ d * U - a * F ≤ B3) (hB1 : 0 ≤ B1) (hB2 : 0 ≤ B2) (hB3 : 0 ≤ B3) (hB : Mx * B1 + H * B2 + H * B3 < U) : a * x + b * y + d * z = 0 := by
 refine form_zero (p1 := a * M) (p2 := (b * U - a * T) * y) (p3 := (d * U - a * F) * z) hU ?_ (lin_bd hMx h1 hB1) (lin_bd hy h2 hB2) (lin_bd hz h3 hB3) hB
 subst hM
 simp only [Int.mul_add, Int.sub_mul]
 have e1 : U * (a * x) = a * (x * U) := by rw [Int.mul_left_comm, Int.mul_comm U x]
 have e2 : U * (b * y) = b * U * y := by rw [Int.mul_left_comm, Int.mul_assoc]
 have e3 : U * (d * z) = d * U * z := by rw [Int.mul_left_comm, Int.mul_assoc]
 have e4 : a * (y * T) = a * T * y := by rw [Int.mul_comm y T, Int.mul_assoc]
 have e5 : a * (z * F) = a * F * z := by rw [Int.mul_comm z F, Int.mul_assoc]
 omega
theorem comb_zero {a1 b1 d1 a2 b2 d2 a3 b3 d3 x y z : Int} (k1 k2 k3 : Int) (h1 : a1 * x + b1 * y + d1 * z = 0) (h2 : a2 * x + b2 * y + d2 * z = 0) (h3 : a3 * x + b3 * y + d3 * z = 0)
  (p q r : Int) (hp : k1 * a1 + k2 * a2 + k3 * a3 = p) (hq : k1 * b1 + k2 * b2 + k3 * b3 = q) (hr : k1 * d1 + k2 * d2 + k3 * d3 = r) : p * x + q * y + r * z = 0 := by
 have e : p * x + q * y + r * z = k1 * (a1 * x + b1 * y + d1 * z) + k2 * (a2 * x + b2 * y + d2 * z) + k3 * (a3 * x + b3 * y + d3 * z) := by
  rw [← hp, ← hq, ← hr]
  simp only [Int.mul_add, Int.add_mul, Int.mul_assoc]
  omega
 rw [e, h1, h2, h3]; simp
theorem log_far {x y z : Int} (hy : -3000000 ≤ y ∧ y ≤ 3000000) (hz : -3000000 ≤ z ∧ z ≤ 3000000)
  (h : -10000000 ≤ x * 1000000000000000000000000000000 + y * 1584962500721156181453738943947 + z * 2321928094887362347870319429489 ∧
   x * 1000000000000000000000000000000 + y * 1584962500721156181453738943947 + z * 2321928094887362347870319429489 ≤ 10000000) : x = 0 ∧ y = 0 ∧ z = 0 := by
 have a := form_at (-715273134191524) (-1133681095466857) (-1660812785797438) rfl (by decide) h hy hz 10000000000000000 20000000000000000000000 20000000000000000000000 (by decide) (by decide) (by decide) (by decide) (by decide) (by decide) (by decide)
 have b := form_at (-3314907793508033) (-5254004546058542) (-7696977537707377) rfl (by decide) h hy hz 10000000000000000 20000000000000000000000 20000000000000000000000 (by decide) (by decide) (by decide) (by decide) (by decide) (by decide) (by decide)
 have c := form_at (3942766806221849) (6249137536949748) (9154821018955828) rfl (by decide) h hy hz 10000000000000000 20000000000000000000000 20000000000000000000000 (by decide) (by decide) (by decide) (by decide) (by decide) (by decide) (by decide)
 have hx := comb_zero (-222191780) (7846972) (-33711307) a b c 1 0 0 (by decide) (by decide) (by decide)
 have hy2 := comb_zero (84286251) (-44179010) (-21853094) a b c 0 1 0 (by decide) (by decide) (by decide)
 have hz2 := comb_zero (38158474) (26777359) (29435727) a b c 0 0 1 (by decide) (by decide) (by decide)
 clear a b c h
 omega
structure Lo (b m e n : Nat) : Prop where
 le : m * 2 ^ e ≤ b ^ n
structure Up (b m e n : Nat) : Prop where
 le : b ^ n ≤ m * 2 ^ e
theorem Lo.ten {b m e n : Nat} (h : Lo b m e n) (m' s e' n' : Nat) (hm : m' * 2 ^ s ≤ m ^ 10) (he : e' = 10 * e + s) (hn : n' = 10 * n) : Lo b m' e' n' := ⟨by
 subst he; subst hn
 have h1 : (m * 2 ^ e) ^ 10 ≤ (b ^ n) ^ 10 := Nat.pow_le_pow_left h.le 10
 rw [Nat.mul_pow, ← Nat.pow_mul, ← Nat.pow_mul, Nat.mul_comm n 10, Nat.mul_comm e 10] at h1
 rw [Nat.pow_add, Nat.mul_comm (2 ^ (10 * e)), ← Nat.mul_assoc]
 exact Nat.le_trans (Nat.mul_le_mul_right _ hm) h1⟩
theorem Up.ten {b m e n : Nat} (h : Up b m e n) (m' s e' n' : Nat) (hm : m ^ 10 ≤ m' * 2 ^ s) (he : e' = 10 * e + s) (hn : n' = 10 * n) : Up b m' e' n' := ⟨by
 subst he; subst hn
 have h1 : (b ^ n) ^ 10 ≤ (m * 2 ^ e) ^ 10 := Nat.pow_le_pow_left h.le 10
 rw [Nat.mul_pow, ← Nat.pow_mul, ← Nat.pow_mul, Nat.mul_comm n 10, Nat.mul_comm e 10] at h1
 rw [Nat.pow_add, Nat.mul_comm (2 ^ (10 * e)), ← Nat.mul_assoc]
 exact Nat.le_trans h1 (Nat.mul_le_mul_right _ hm)⟩
theorem Lo.drop {b m e n : Nat} (h : Lo b m e n) (m' s e' : Nat) (hm : m' * 2 ^ s ≤ m) (he : e' = e + s) : Lo b m' e' n := ⟨by
 subst he
 rw [Nat.pow_add, Nat.mul_comm (2 ^ e), ← Nat.mul_assoc]
 exact Nat.le_trans (Nat.mul_le_mul_right _ hm) h.le⟩
theorem Up.drop {b m e n : Nat} (h : Up b m e n) (m' s e' : Nat) (hm : m ≤ m' * 2 ^ s) (he : e' = e + s) : Up b m' e' n := ⟨by
 subst he
 rw [Nat.pow_add, Nat.mul_comm (2 ^ e), ← Nat.mul_assoc]
 exact Nat.le_trans h.le (Nat.mul_le_mul_right _ hm)⟩
theorem three_lo : Lo 3 1 1584962500721156181453738943947 1000000000000000000000000000000 := by
 have h0 : Lo 3 3 0 1 := ⟨by decide⟩
 have h1 := h0.ten 59049 0 0 10 (by decide +kernel) (by decide +kernel) (by decide +kernel)
 clear h0
 have h2 := h1.ten 1006596720179709630930588144073479048246303753 9 9 100 (by decide +kernel) (by decide +kernel) (by decide +kernel)
 clear h1
 have h3 := h2.ten 1390627911253746190642282260224220208643584304 1345 1435 1000 (by decide +kernel) (by decide +kernel) (by decide +kernel)
 clear h2
 have h4 := h3.ten 1100563922461046501365290365484892707237299265 1350 15700 10000 (by decide +kernel) (by decide +kernel) (by decide +kernel)
 clear h3
 have h5 := h4.ten 848688977651344702321876299442426522333453012 1347 158347 100000 (by decide +kernel) (by decide +kernel) (by decide +kernel)
 clear h4
 have h6 := h5.ten 1009721122463938600027744367153760234762045284 1343 1584813 1000000 (by decide +kernel) (by decide +kernel) (by decide +kernel)
 clear h5
 have h7 := h6.ten 717199949573766534611390858854008265183017079 1346 15849476 10000000 (by decide +kernel) (by decide +kernel) (by decide +kernel)
 clear h6
 have h8 := h7.ten 750202173652095907781018871932310971548189469 1341 158496101 100000000 (by decide +kernel) (by decide +kernel) (by decide +kernel)
 clear h7
 have h9 := h8.ten 1176410781661444899120867951253395408861394778 1341 1584962351 1000000000 (by decide +kernel) (by decide +kernel) (by decide +kernel)
 clear h8
 have h10 := h9.ten 826334349373253110105315919792456946117158184 1348 15849624858 10000000000 (by decide +kernel) (by decide +kernel) (by decide +kernel)
 clear h9
 have h11 := h10.ten 773168022528277923206369320281874551571039826 1343 158496249923 100000000000 (by decide +kernel) (by decide +kernel) (by decide +kernel)
 clear h10
 have h12 := h11.ten 795215169900330050744245072676918023057958907 1342 1584962500572 1000000000000 (by decide +kernel) (by decide +kernel) (by decide +kernel)
 clear h11
 have h13 := h12.ten 1053397738586190766164939440522850286739233157 1342 15849625007062 10000000000000 (by decide +kernel) (by decide +kernel) (by decide +kernel)
 clear h12
 have h14 := h13.ten 1095341779310249692275102767173981549695138049 1346 158496250071966 100000000000000 (by decide +kernel) (by decide +kernel) (by decide +kernel)
 clear h13
 have h15 := h14.ten 809268007976615368566722698648097402830334009 1347 1584962500721007 1000000000000000 (by decide +kernel) (by decide +kernel) (by decide +kernel)
 clear h14
 have h16 := h15.ten 1255074600755836407416254071172545826343322712 1342 15849625007211412 10000000000000000 (by decide +kernel) (by decide +kernel) (by decide +kernel)
 clear h15
 have h17 := h16.ten 789280288263472339163795310739657269063018088 1349 158496250072115469 100000000000000000 (by decide +kernel) (by decide +kernel) (by decide +kernel)
 clear h16
 have h18 := h17.ten 977368608911947174234714410617121054831698340 1342 1584962500721156032 1000000000000000000 (by decide +kernel) (by decide +kernel) (by decide +kernel)
 clear h17
 have h19 := h18.ten 1035713637073047285060077509367677409810349747 1345 15849625007211561665 10000000000000000000 (by decide +kernel) (by decide +kernel) (by decide +kernel)
 clear h18
 have h20 := h19.ten 924746682501795470181890730675210416060982193 1346 158496250072115617996 100000000000000000000 (by decide +kernel) (by decide +kernel) (by decide +kernel)
 clear h19
 have h21 := h20.ten 1191005171747078233370907472945307829127925997 1344 1584962500721156181304 1000000000000000000000 (by decide +kernel) (by decide +kernel) (by decide +kernel)
 clear h20
 have h22 := h21.ten 934764731882253048452394951786647544804778641 1348 15849625007211561814388 10000000000000000000000 (by decide +kernel) (by decide +kernel) (by decide +kernel)
 clear h21
 have h23 := h22.ten 1326505366118509340783269633239915958012676000 1344 158496250072115618145224 100000000000000000000000 (by decide +kernel) (by decide +kernel) (by decide +kernel)
 clear h22
 have h24 := h23.ten 1372859081856777587436632846019803411664128158 1349 1584962500721156181453589 1000000000000000000000000 (by decide +kernel) (by decide +kernel) (by decide +kernel)
 clear h23
 have h25 := h24.ten 967755089674153981080424429044651715295844577 1350 15849625007211561814537240 10000000000000000000000000 (by decide +kernel) (by decide +kernel) (by decide +kernel)
 clear h24
 have h26 := h25.ten 938232499838160312039484276002402005639356346 1345 158496250072115618145373745 100000000000000000000000000 (by decide +kernel) (by decide +kernel) (by decide +kernel)
 clear h25
 have h27 := h26.ten 1376545444293063856934092253424866054913994110 1344 1584962500721156181453738794 1000000000000000000000000000 (by decide +kernel) (by decide +kernel) (by decide +kernel)
 clear h26
 have h28 := h27.ten 994057229543625979507106798187727651581497096 1350 15849625007211561814537389290 10000000000000000000000000000 (by decide +kernel) (by decide +kernel) (by decide +kernel)
 clear h27
 have h29 := h28.ten 1226788549483261149478323405915938472440835169 1345 158496250072115618145373894245 100000000000000000000000000000 (by decide +kernel) (by decide +kernel) (by decide +kernel)
 clear h28
 have h30 := h29.ten 1256790769476822779989525042024867407369216541 1348 1584962500721156181453738943798 1000000000000000000000000000000 (by decide +kernel) (by decide +kernel) (by decide +kernel)
 clear h29
 exact h30.drop 1 149 1584962500721156181453738943947 (by decide +kernel) (by decide +kernel)
theorem three_up : Up 3 1 1584962500721156181453738943948 1000000000000000000000000000000 := by
 have h0 : Up 3 3 0 1 := ⟨by decide⟩
 have h1 := h0.ten 59049 0 0 10 (by decide +kernel) (by decide +kernel) (by decide +kernel)
 clear h0
 have h2 := h1.ten 1006596720179709630930588144073479048246303754 9 9 100 (by decide +kernel) (by decide +kernel) (by decide +kernel)
 clear h1
 have h3 := h2.ten 1390627911253746190642282260224220208643584319 1345 1435 1000 (by decide +kernel) (by decide +kernel) (by decide +kernel)
 clear h2
 have h4 := h3.ten 1100563922461046501365290365484892707237299385 1350 15700 10000 (by decide +kernel) (by decide +kernel) (by decide +kernel)
 clear h3
 have h5 := h4.ten 848688977651344702321876299442426522333453938 1347 158347 100000 (by decide +kernel) (by decide +kernel) (by decide +kernel)
 clear h4
 have h6 := h5.ten 1009721122463938600027744367153760234762056302 1343 1584813 1000000 (by decide +kernel) (by decide +kernel) (by decide +kernel)
 clear h5
 have h7 := h6.ten 717199949573766534611390858854008265183095340 1346 15849476 10000000 (by decide +kernel) (by decide +kernel) (by decide +kernel)
 clear h6
 have h8 := h7.ten 750202173652095907781018871932310971549008092 1341 158496101 100000000 (by decide +kernel) (by decide +kernel) (by decide +kernel)
 clear h7
 have h9 := h8.ten 1176410781661444899120867951253395408874231810 1341 1584962351 1000000000 (by decide +kernel) (by decide +kernel) (by decide +kernel)
 clear h8
 have h10 := h9.ten 826334349373253110105315919792456946207328053 1348 15849624858 10000000000 (by decide +kernel) (by decide +kernel) (by decide +kernel)
 clear h9
 have h11 := h10.ten 773168022528277923206369320281874552414723251 1343 158496249923 100000000000 (by decide +kernel) (by decide +kernel) (by decide +kernel)
 clear h10
 have h12 := h11.ten 795215169900330050744245072676918031735372337 1342 1584962500572 1000000000000 (by decide +kernel) (by decide +kernel) (by decide +kernel)
 clear h11
 have h13 := h12.ten 1053397738586190766164939440522850401686332131 1342 15849625007062 10000000000000 (by decide +kernel) (by decide +kernel) (by decide +kernel)
 clear h12
 have h14 := h13.ten 1095341779310249692275102767173982744935599509 1346 158496250071966 100000000000000 (by decide +kernel) (by decide +kernel) (by decide +kernel)
 clear h13
 have h15 := h14.ten 809268007976615368566722698648106233588783742 1347 1584962500721007 1000000000000000 (by decide +kernel) (by decide +kernel) (by decide +kernel)
 clear h14
 have h16 := h15.ten 1255074600755836407416254071172682780486158298 1342 15849625007211412 10000000000000000 (by decide +kernel) (by decide +kernel) (by decide +kernel)
 clear h15
 have h17 := h16.ten 789280288263472339163795310740518534244155932 1349 158496250072115469 100000000000000000 (by decide +kernel) (by decide +kernel) (by decide +kernel)
 clear h16
 have h18 := h17.ten 977368608911947174234714410627786132428467051 1342 1584962500721156032 1000000000000000000 (by decide +kernel) (by decide +kernel) (by decide +kernel)
 clear h17
 have h19 := h18.ten 1035713637073047285060077509480694813957516769 1345 15849625007211561665 10000000000000000000 (by decide +kernel) (by decide +kernel) (by decide +kernel)
 clear h18
 have h20 := h19.ten 924746682501795470181890731684296960923056473 1346 158496250072115617996 100000000000000000000 (by decide +kernel) (by decide +kernel) (by decide +kernel)
 clear h19
 have h21 := h20.ten 1191005171747078233370907485941594449153590140 1344 1584962500721156181304 1000000000000000000000 (by decide +kernel) (by decide +kernel) (by decide +kernel)
 clear h20
 have h22 := h21.ten 934764731882253048452395053788474791387473410 1348 15849625007211561814388 10000000000000000000000 (by decide +kernel) (by decide +kernel) (by decide +kernel)
 clear h21
 have h23 := h22.ten 1326505366118509340783271080726824498426416900 1344 158496250072115618145224 100000000000000000000000 (by decide +kernel) (by decide +kernel) (by decide +kernel)
 clear h22
 have h24 := h23.ten 1372859081856777587436647826702121141261027817 1349 1584962500721156181453589 1000000000000000000000000 (by decide +kernel) (by decide +kernel) (by decide +kernel)
 clear h23
 have h25 := h24.ten 967755089674153981080530030790317894839156833 1350 15849625007211561814537240 10000000000000000000000000 (by decide +kernel) (by decide +kernel) (by decide +kernel)
 clear h24
 have h26 := h25.ten 938232499838160312040508078314379651094632867 1345 158496250072115618145373745 100000000000000000000000000 (by decide +kernel) (by decide +kernel) (by decide +kernel)
 clear h25
 have h27 := h26.ten 1376545444293063856949113161447692292998169527 1344 1584962500721156181453738794 1000000000000000000000000000 (by decide +kernel) (by decide +kernel) (by decide +kernel)
 clear h26
 have h28 := h27.ten 994057229543625979615578641789437012443768083 1350 15849625007211561814537389290 10000000000000000000000000000 (by decide +kernel) (by decide +kernel) (by decide +kernel)
 clear h27
 have h29 := h28.ten 1226788549483261150816999004432634187488963028 1345 158496250072115618145373894245 100000000000000000000000000000 (by decide +kernel) (by decide +kernel) (by decide +kernel)
 clear h28
 have h30 := h29.ten 1256790769476822793703666213690573369480788239 1348 1584962500721156181453738943798 1000000000000000000000000000000 (by decide +kernel) (by decide +kernel) (by decide +kernel)
 clear h29
 exact h30.drop 1 150 1584962500721156181453738943948 (by decide +kernel) (by decide +kernel)
theorem five_lo : Lo 5 1 2321928094887362347870319429489 1000000000000000000000000000000 := by
 have h0 : Lo 5 5 0 1 := ⟨by decide⟩
 have h1 := h0.ten 9765625 0 0 10 (by decide +kernel) (by decide +kernel) (by decide +kernel)
 clear h0
 have h2 := h1.ten 815663058499815565838786763657068444462645532 83 83 100 (by decide +kernel) (by decide +kernel) (by decide +kernel)
 clear h1
 have h3 := h2.ten 1357856119416196009095475403472594137495890040 1342 2172 1000 (by decide +kernel) (by decide +kernel) (by decide +kernel)
 clear h2
 have h4 := h3.ten 867048501800438231790071525854248935487353403 1350 23070 10000 (by decide +kernel) (by decide +kernel) (by decide +kernel)
 clear h3
 have h5 := h4.ten 1250690193729043307086621569429231961850594822 1343 232043 100000 (by decide +kernel) (by decide +kernel) (by decide +kernel)
 clear h4
 have h6 := h5.ten 762137438847394904144647800632761892604716659 1349 2321779 1000000 (by decide +kernel) (by decide +kernel) (by decide +kernel)
 clear h5
 have h7 := h6.ten 1377554458440785188914515051521708646955342709 1341 23219131 10000000 (by decide +kernel) (by decide +kernel) (by decide +kernel)
 clear h6
 have h8 := h7.ten 1001367796461375437950994045646105313596866737 1350 232192660 100000000 (by decide +kernel) (by decide +kernel) (by decide +kernel)
 clear h7
 have h9 := h8.ten 1320055034142227583891191406754733145572267566 1345 2321927945 1000000000 (by decide +kernel) (by decide +kernel) (by decide +kernel)
 clear h8
 have h10 := h9.ten 1307543740368222033910535181978843907177914095 1349 23219280799 10000000000 (by decide +kernel) (by decide +kernel) (by decide +kernel)
 clear h9
 have h11 := h10.ten 1188770744681222985202010085224097733122691902 1349 232192809339 100000000000 (by decide +kernel) (by decide +kernel) (by decide +kernel)
 clear h10
 have h12 := h11.ten 917375065601964477255968293174189952057144704 1348 2321928094738 1000000000000 (by decide +kernel) (by decide +kernel) (by decide +kernel)
 clear h11
 have h13 := h12.ten 1099398513077533070919813019053503574167024863 1344 23219280948724 10000000000000 (by decide +kernel) (by decide +kernel) (by decide +kernel)
 clear h12
 have h14 := h13.ten 839744741848630421426932962132427789724312480 1347 232192809488587 100000000000000 (by decide +kernel) (by decide +kernel) (by decide +kernel)
 clear h13
 have h15 := h14.ten 908215176267881321757000490582224403094433894 1343 2321928094887213 1000000000000000 (by decide +kernel) (by decide +kernel) (by decide +kernel)
 clear h14
 have h16 := h15.ten 994428069261287711153258868318702740583050048 1344 23219280948873474 10000000000000000 (by decide +kernel) (by decide +kernel) (by decide +kernel)
 clear h15
 have h17 := h16.ten 1231372857128317942617121778009266014036956312 1345 232192809488736085 100000000000000000 (by decide +kernel) (by decide +kernel) (by decide +kernel)
 clear h16
 have h18 := h17.ten 1304552640040282556000627314670066594530515709 1348 2321928094887362198 1000000000000000000 (by decide +kernel) (by decide +kernel) (by decide +kernel)
 clear h17
 have h19 := h18.ten 1161854995122068798444377918874656070635229534 1349 23219280948873623329 10000000000000000000 (by decide +kernel) (by decide +kernel) (by decide +kernel)
 clear h18
 have h20 := h19.ten 729600528170516698157174530864544474094416224 1348 232192809488736234638 100000000000000000000 (by decide +kernel) (by decide +kernel) (by decide +kernel)
 clear h19
 have h21 := h20.ten 890486237349347394390720746743619057341323909 1341 2321928094887362347721 1000000000000000000000 (by decide +kernel) (by decide +kernel) (by decide +kernel)
 clear h20
 have h22 := h21.ten 816503301260376086898321223474268451084719266 1344 23219280948873623478554 10000000000000000000000 (by decide +kernel) (by decide +kernel) (by decide +kernel)
 clear h21
 have h23 := h22.ten 1371908885608102542074676226243743574159569865 1342 232192809488736234786882 100000000000000000000000 (by decide +kernel) (by decide +kernel) (by decide +kernel)
 clear h22
 have h24 := h23.ten 961077794745990393966189210213477805626123213 1350 2321928094887362347870170 1000000000000000000000000 (by decide +kernel) (by decide +kernel) (by decide +kernel)
 clear h23
 have h25 := h24.ten 875469990584398729823246355799733885281306553 1345 23219280948873623478703045 10000000000000000000000000 (by decide +kernel) (by decide +kernel) (by decide +kernel)
 clear h24
 have h26 := h25.ten 1377616901288273065615181538909042441087308212 1343 232192809488736234787031793 100000000000000000000000000 (by decide +kernel) (by decide +kernel) (by decide +kernel)
 clear h25
 have h27 := h26.ten 1001821796753213736484492951024106976248065394 1350 2321928094887362347870319280 1000000000000000000000000000 (by decide +kernel) (by decide +kernel) (by decide +kernel)
 clear h26
 have h28 := h27.ten 1326052126934239248974744113854451917598014282 1345 23219280948873623478703194145 10000000000000000000000000000 (by decide +kernel) (by decide +kernel) (by decide +kernel)
 clear h27
 have h29 := h28.ten 1368175514805212968219598510291570497597541276 1349 232192809488736234787031942799 100000000000000000000000000000 (by decide +kernel) (by decide +kernel) (by decide +kernel)
 clear h28
 have h30 := h29.ten 935241980344284062324905104886695684142267649 1350 2321928094887362347870319429340 1000000000000000000000000000000 (by decide +kernel) (by decide +kernel) (by decide +kernel)
 clear h29
 exact h30.drop 1 149 2321928094887362347870319429489 (by decide +kernel) (by decide +kernel)
theorem five_up : Up 5 1 2321928094887362347870319429490 1000000000000000000000000000000 := by
 have h0 : Up 5 5 0 1 := ⟨by decide⟩
 have h1 := h0.ten 9765625 0 0 10 (by decide +kernel) (by decide +kernel) (by decide +kernel)
 clear h0
 have h2 := h1.ten 815663058499815565838786763657068444462645533 83 83 100 (by decide +kernel) (by decide +kernel) (by decide +kernel)
 clear h1
 have h3 := h2.ten 1357856119416196009095475403472594137495890058 1342 2172 1000 (by decide +kernel) (by decide +kernel) (by decide +kernel)
 clear h2
 have h4 := h3.ten 867048501800438231790071525854248935487353519 1350 23070 10000 (by decide +kernel) (by decide +kernel) (by decide +kernel)
 clear h3
 have h5 := h4.ten 1250690193729043307086621569429231961850596496 1343 232043 100000 (by decide +kernel) (by decide +kernel) (by decide +kernel)
 clear h4
 have h6 := h5.ten 762137438847394904144647800632761892604726861 1349 2321779 1000000 (by decide +kernel) (by decide +kernel) (by decide +kernel)
 clear h5
 have h7 := h6.ten 1377554458440785188914515051521708646955527110 1341 23219131 10000000 (by decide +kernel) (by decide +kernel) (by decide +kernel)
 clear h6
 have h8 := h7.ten 1001367796461375437950994045646105313598207181 1350 232192660 100000000 (by decide +kernel) (by decide +kernel) (by decide +kernel)
 clear h7
 have h9 := h8.ten 1320055034142227583891191406754733145589937996 1345 2321927945 1000000000 (by decide +kernel) (by decide +kernel) (by decide +kernel)
 clear h8
 have h10 := h9.ten 1307543740368222033910535181978843907352943618 1349 23219280799 10000000000 (by decide +kernel) (by decide +kernel) (by decide +kernel)
 clear h9
 have h11 := h10.ten 1188770744681222985202010085224097734713996040 1349 232192809339 100000000000 (by decide +kernel) (by decide +kernel) (by decide +kernel)
 clear h10
 have h12 := h11.ten 917375065601964477255968293174189964337247867 1348 2321928094738 1000000000000 (by decide +kernel) (by decide +kernel) (by decide +kernel)
 clear h11
 have h13 := h12.ten 1099398513077533070919813019053503721333954335 1344 23219280948724 10000000000000 (by decide +kernel) (by decide +kernel) (by decide +kernel)
 clear h12
 have h14 := h13.ten 839744741848630421426932962132428913817657416 1347 232192809488587 100000000000000 (by decide +kernel) (by decide +kernel) (by decide +kernel)
 clear h13
 have h15 := h14.ten 908215176267881321757000490582236560582114796 1343 2321928094887213 1000000000000000 (by decide +kernel) (by decide +kernel) (by decide +kernel)
 clear h14
 have h16 := h15.ten 994428069261287711153258868318835856030991224 1344 23219280948873474 10000000000000000 (by decide +kernel) (by decide +kernel) (by decide +kernel)
 clear h15
 have h17 := h16.ten 1231372857128317942617121778010914345922650228 1345 232192809488736085 100000000000000000 (by decide +kernel) (by decide +kernel) (by decide +kernel)
 clear h16
 have h18 := h17.ten 1304552640040282556000627314687529507576685729 1348 2321928094887362198 1000000000000000000 (by decide +kernel) (by decide +kernel) (by decide +kernel)
 clear h17
 have h19 := h18.ten 1161854995122068798444377919030183506856189356 1349 23219280948873623329 10000000000000000000 (by decide +kernel) (by decide +kernel) (by decide +kernel)
 clear h18
 have h20 := h19.ten 729600528170516698157174531841197327404193937 1348 232192809488736234638 100000000000000000000 (by decide +kernel) (by decide +kernel) (by decide +kernel)
 clear h19
 have h21 := h20.ten 890486237349347394390720758663784832455309978 1341 2321928094887362347721 1000000000000000000000 (by decide +kernel) (by decide +kernel) (by decide +kernel)
 clear h20
 have h22 := h21.ten 816503301260376086898321332772473170370179636 1344 23219280948873623478554 10000000000000000000000 (by decide +kernel) (by decide +kernel) (by decide +kernel)
 clear h21
 have h23 := h22.ten 1371908885608102542074678062699003509284640870 1342 232192809488736234786882 100000000000000000000000 (by decide +kernel) (by decide +kernel) (by decide +kernel)
 clear h22
 have h24 := h23.ten 961077794745990393966202075327115332609108749 1350 2321928094887362347870170 1000000000000000000000000 (by decide +kernel) (by decide +kernel) (by decide +kernel)
 clear h23
 have h25 := h24.ten 875469990584398729823363547362963059104519412 1345 23219280948873623478703045 10000000000000000000000000 (by decide +kernel) (by decide +kernel) (by decide +kernel)
 clear h24
 have h26 := h25.ten 1377616901288273065617025634993765281505434051 1343 232192809488736234787031793 100000000000000000000000000 (by decide +kernel) (by decide +kernel) (by decide +kernel)
 clear h25
 have h27 := h26.ten 1001821796753213736497903469225901406272831149 1350 2321928094887362347870319280 1000000000000000000000000000 (by decide +kernel) (by decide +kernel) (by decide +kernel)
 clear h26
 have h28 := h27.ten 1326052126934239249152251193880186916716690453 1345 23219280948873623478703194145 10000000000000000000000000000 (by decide +kernel) (by decide +kernel) (by decide +kernel)
 clear h27
 have h29 := h28.ten 1368175514805212970051056231016782396446092740 1349 232192809488736234787031942799 100000000000000000000000000000 (by decide +kernel) (by decide +kernel) (by decide +kernel)
 clear h28
 have h30 := h29.ten 935241980344284074844177136236672813998339386 1350 2321928094887362347870319429340 1000000000000000000000000000000 (by decide +kernel) (by decide +kernel) (by decide +kernel)
 clear h29
 exact h30.drop 1 150 2321928094887362347870319429490 (by decide +kernel) (by decide +kernel)
end Go.Proofs.YtendjepcjmfmfaaGreatDoor
