/- The table of the functions, written out. No condition. -/
import Derived.Test.YtnibcojenlijgaaGreatDoorEv24a
import Derived.Test.YtnibcojenlijgaaGreatDoorEvT
set_option maxRecDepth 100000
namespace Go.Proofs.YtnibcojenlijgaaGreatDoor.Ev
open Go
def T : FuncId → Option RFn
  | 2 => some rf2
  | 3 => some rf3
  | 4 => some rf4
  | 5 => some rf5
  | 6 => some rf6
  | 7 => some rf7
  | 8 => some rf8
  | 9 => some rf9
  | 10 => some rf10
  | 11 => some rf11
  | 12 => some rf12
  | 13 => some rf13
  | 14 => some rf14
  | 15 => some rf15
  | 16 => some rf16
  | 17 => some rf17
  | 18 => some rf18
  | 19 => some rf19
  | 20 => some rf20
  | 21 => some rf21
  | 22 => some rf22
  | 23 => some rf23
  | 24 => some rf24
  | 25 => some rf25
  | 26 => some rf26
  | 27 => some rf27
  | 28 => some rf28
  | 29 => some rf29
  | 30 => some rf30
  | 31 => some rf31
  | 32 => some rf32
  | 33 => some rf33
  | 34 => some rf34
  | 35 => some rf35
  | 36 => some rf36
  | 37 => some rf37
  | 38 => some rf38
  | 39 => some rf39
  | 40 => some rf40
  | 41 => some rf41
  | 42 => some rf42
  | 43 => some rf43
  | 44 => some rf44
  | 45 => some rf45
  | 46 => some rf46
  | 47 => some rf47
  | 48 => some rf48
  | 49 => some rf49
  | 50 => some rf50
  | 51 => some rf51
  | 52 => some rf52
  | 53 => some rf53
  | 54 => some rf54
  | 55 => some rf55
  | 56 => some rf56
  | 57 => some rf57
  | 58 => some rf58
  | 59 => some rf59
  | 60 => some rf60
  | 61 => some rf61
  | 62 => some rf62
  | 63 => some rf63
  | 64 => some rf64
  | 65 => some rf65
  | 66 => some rf66
  | 67 => some rf67
  | 68 => some rf68
  | 69 => some rf69
  | 70 => some rf70
  | 71 => some rf71
  | 72 => some rf72
  | 73 => some rf73
  | 74 => some rf74
  | 75 => some rf75
  | 76 => some rf76
  | 77 => some rf77
  | 78 => some rf78
  | 79 => some rf79
  | 80 => some rf80
  | 81 => some rf81
  | 82 => some rf82
  | 83 => some rf83
  | 84 => some rf84
  | 85 => some rf85
  | 86 => some rf86
  | 87 => some rf87
  | 88 => some rf88
  | 89 => some rf89
  | 90 => some rf90
  | 91 => some rf91
  | 92 => some rf92
  | 93 => some rf93
  | 94 => some rf94
  | 95 => some rf95
  | 96 => some rf96
  | 97 => some rf97
  | 98 => some rf98
  | 99 => some rf99
  | 100 => some rf100
  | 101 => some rf101
  | 102 => some rf102
  | 103 => some rf103
  | 104 => some rf104
  | 105 => some rf105
  | 106 => some rf106
  | 107 => some rf107
  | 108 => some rf108
  | 109 => some rf109
  | 110 => some rf110
  | 111 => some rf111
  | 112 => some rf112
  | 113 => some rf113
  | 114 => some rf114
  | 115 => some rf115
  | 116 => some rf116
  | 117 => some rf117
  | 118 => some rf118
  | 119 => some rf119
  | 120 => some rf120
  | 121 => some rf121
  | 141 => some rf141
  | _ => none
theorem tab2 : tab 2 = some rf2 := by kernel_rfl
theorem tab3 : tab 3 = some rf3 := by kernel_rfl
theorem tab4 : tab 4 = some rf4 := by kernel_rfl
theorem tab5 : tab 5 = some rf5 := by kernel_rfl
theorem tab6 : tab 6 = some rf6 := by kernel_rfl
theorem tab7 : tab 7 = some rf7 := by kernel_rfl
theorem tab8 : tab 8 = some rf8 := by kernel_rfl
theorem tab9 : tab 9 = some rf9 := by kernel_rfl
theorem tab10 : tab 10 = some rf10 := by kernel_rfl
theorem tab11 : tab 11 = some rf11 := by kernel_rfl
theorem tab12 : tab 12 = some rf12 := by kernel_rfl
theorem tab13 : tab 13 = some rf13 := by kernel_rfl
theorem tab14 : tab 14 = some rf14 := by kernel_rfl
theorem tab15 : tab 15 = some rf15 := by kernel_rfl
theorem tab16 : tab 16 = some rf16 := by kernel_rfl
theorem tab17 : tab 17 = some rf17 := by kernel_rfl
theorem tab18 : tab 18 = some rf18 := by kernel_rfl
theorem tab19 : tab 19 = some rf19 := by kernel_rfl
theorem tab20 : tab 20 = some rf20 := by kernel_rfl
theorem tab21 : tab 21 = some rf21 := by kernel_rfl
theorem tab22 : tab 22 = some rf22 := by kernel_rfl
theorem tab23 : tab 23 = some rf23 := by kernel_rfl
theorem tab24 : tab 24 = some rf24 := by kernel_rfl
theorem tab25 : tab 25 = some rf25 := by kernel_rfl
theorem tab26 : tab 26 = some rf26 := by kernel_rfl
theorem tab27 : tab 27 = some rf27 := by kernel_rfl
theorem tab28 : tab 28 = some rf28 := by kernel_rfl
theorem tab29 : tab 29 = some rf29 := by kernel_rfl
theorem tab30 : tab 30 = some rf30 := by kernel_rfl
theorem tab31 : tab 31 = some rf31 := by kernel_rfl
theorem tab32 : tab 32 = some rf32 := by kernel_rfl
theorem tab33 : tab 33 = some rf33 := by kernel_rfl
theorem tab34 : tab 34 = some rf34 := by kernel_rfl
theorem tab35 : tab 35 = some rf35 := by kernel_rfl
theorem tab36 : tab 36 = some rf36 := by kernel_rfl
theorem tab37 : tab 37 = some rf37 := by kernel_rfl
theorem tab38 : tab 38 = some rf38 := by kernel_rfl
theorem tab39 : tab 39 = some rf39 := by kernel_rfl
theorem tab40 : tab 40 = some rf40 := by kernel_rfl
theorem tab41 : tab 41 = some rf41 := by kernel_rfl
theorem tab42 : tab 42 = some rf42 := by kernel_rfl
theorem tab43 : tab 43 = some rf43 := by kernel_rfl
theorem tab44 : tab 44 = some rf44 := by kernel_rfl
theorem tab45 : tab 45 = some rf45 := by kernel_rfl
theorem tab46 : tab 46 = some rf46 := by kernel_rfl
theorem tab47 : tab 47 = some rf47 := by kernel_rfl
theorem tab48 : tab 48 = some rf48 := by kernel_rfl
theorem tab49 : tab 49 = some rf49 := by kernel_rfl
theorem tab50 : tab 50 = some rf50 := by kernel_rfl
theorem tab51 : tab 51 = some rf51 := by kernel_rfl
theorem tab52 : tab 52 = some rf52 := by kernel_rfl
theorem tab53 : tab 53 = some rf53 := by kernel_rfl
theorem tab54 : tab 54 = some rf54 := by kernel_rfl
theorem tab55 : tab 55 = some rf55 := by kernel_rfl
theorem tab56 : tab 56 = some rf56 := by kernel_rfl
theorem tab57 : tab 57 = some rf57 := by kernel_rfl
theorem tab58 : tab 58 = some rf58 := by kernel_rfl
theorem tab59 : tab 59 = some rf59 := by kernel_rfl
theorem tab60 : tab 60 = some rf60 := by kernel_rfl
theorem tab61 : tab 61 = some rf61 := by kernel_rfl
theorem tab62 : tab 62 = some rf62 := by kernel_rfl
theorem tab63 : tab 63 = some rf63 := by kernel_rfl
theorem tab64 : tab 64 = some rf64 := by kernel_rfl
theorem tab65 : tab 65 = some rf65 := by kernel_rfl
theorem tab66 : tab 66 = some rf66 := by kernel_rfl
theorem tab67 : tab 67 = some rf67 := by kernel_rfl
theorem tab68 : tab 68 = some rf68 := by kernel_rfl
theorem tab69 : tab 69 = some rf69 := by kernel_rfl
theorem tab70 : tab 70 = some rf70 := by kernel_rfl
theorem tab71 : tab 71 = some rf71 := by kernel_rfl
theorem tab72 : tab 72 = some rf72 := by kernel_rfl
theorem tab73 : tab 73 = some rf73 := by kernel_rfl
theorem tab74 : tab 74 = some rf74 := by kernel_rfl
theorem tab75 : tab 75 = some rf75 := by kernel_rfl
theorem tab76 : tab 76 = some rf76 := by kernel_rfl
theorem tab77 : tab 77 = some rf77 := by kernel_rfl
theorem tab78 : tab 78 = some rf78 := by kernel_rfl
theorem tab79 : tab 79 = some rf79 := by kernel_rfl
theorem tab80 : tab 80 = some rf80 := by kernel_rfl
theorem tab81 : tab 81 = some rf81 := by kernel_rfl
theorem tab82 : tab 82 = some rf82 := by kernel_rfl
theorem tab83 : tab 83 = some rf83 := by kernel_rfl
theorem tab84 : tab 84 = some rf84 := by kernel_rfl
theorem tab85 : tab 85 = some rf85 := by kernel_rfl
theorem tab86 : tab 86 = some rf86 := by kernel_rfl
theorem tab87 : tab 87 = some rf87 := by kernel_rfl
theorem tab88 : tab 88 = some rf88 := by kernel_rfl
theorem tab89 : tab 89 = some rf89 := by kernel_rfl
theorem tab90 : tab 90 = some rf90 := by kernel_rfl
theorem tab91 : tab 91 = some rf91 := by kernel_rfl
theorem tab92 : tab 92 = some rf92 := by kernel_rfl
theorem tab93 : tab 93 = some rf93 := by kernel_rfl
theorem tab94 : tab 94 = some rf94 := by kernel_rfl
theorem tab95 : tab 95 = some rf95 := by kernel_rfl
theorem tab96 : tab 96 = some rf96 := by kernel_rfl
theorem tab97 : tab 97 = some rf97 := by kernel_rfl
theorem tab98 : tab 98 = some rf98 := by kernel_rfl
theorem tab99 : tab 99 = some rf99 := by kernel_rfl
theorem tab100 : tab 100 = some rf100 := by kernel_rfl
theorem tab101 : tab 101 = some rf101 := by kernel_rfl
theorem tab102 : tab 102 = some rf102 := by kernel_rfl
theorem tab103 : tab 103 = some rf103 := by kernel_rfl
theorem tab104 : tab 104 = some rf104 := by kernel_rfl
theorem tab105 : tab 105 = some rf105 := by kernel_rfl
theorem tab106 : tab 106 = some rf106 := by kernel_rfl
theorem tab107 : tab 107 = some rf107 := by kernel_rfl
theorem tab108 : tab 108 = some rf108 := by kernel_rfl
theorem tab109 : tab 109 = some rf109 := by kernel_rfl
theorem tab110 : tab 110 = some rf110 := by kernel_rfl
theorem tab111 : tab 111 = some rf111 := by kernel_rfl
theorem tab112 : tab 112 = some rf112 := by kernel_rfl
theorem tab113 : tab 113 = some rf113 := by kernel_rfl
theorem tab114 : tab 114 = some rf114 := by kernel_rfl
theorem tab115 : tab 115 = some rf115 := by kernel_rfl
theorem tab116 : tab 116 = some rf116 := by kernel_rfl
theorem tab117 : tab 117 = some rf117 := by kernel_rfl
theorem tab118 : tab 118 = some rf118 := by kernel_rfl
theorem tab119 : tab 119 = some rf119 := by kernel_rfl
theorem tab120 : tab 120 = some rf120 := by kernel_rfl
theorem tab121 : tab 121 = some rf121 := by kernel_rfl
theorem tab141 : tab 141 = some rf141 := by kernel_rfl
theorem wf2 : wfR b2 = true := by kernel_rfl
theorem wf3 : wfR b3 = true := by kernel_rfl
theorem wf4 : wfR b4 = true := by kernel_rfl
theorem wf5 : wfR b5 = true := by kernel_rfl
theorem wf6 : wfR b6 = true := by kernel_rfl
theorem wf7 : wfR b7 = true := by kernel_rfl
theorem wf8 : wfR b8 = true := by kernel_rfl
theorem wf9 : wfR b9 = true := by kernel_rfl
theorem wf10 : wfR b10 = true := by kernel_rfl
theorem wf11 : wfR b11 = true := by kernel_rfl
theorem wf12 : wfR b12 = true := by kernel_rfl
theorem wf13 : wfR b13 = true := by kernel_rfl
theorem wf14 : wfR b14 = true := by kernel_rfl
theorem wf15 : wfR b15 = true := by kernel_rfl
theorem wf16 : wfR b16 = true := by kernel_rfl
theorem wf17 : wfR b17 = true := by kernel_rfl
theorem wf18 : wfR b18 = true := by kernel_rfl
theorem wf19 : wfR b19 = true := by kernel_rfl
theorem wf20 : wfR b20 = true := by kernel_rfl
theorem wf21 : wfR b21 = true := by kernel_rfl
theorem wf22 : wfR b22 = true := by kernel_rfl
theorem wf23 : wfR b23 = true := by kernel_rfl
theorem wf24 : wfR b24 = true := by kernel_rfl
theorem wf25 : wfR b25 = true := by kernel_rfl
theorem wf26 : wfR b26 = true := by kernel_rfl
theorem wf27 : wfR b27 = true := by kernel_rfl
theorem wf28 : wfR b28 = true := by kernel_rfl
theorem wf29 : wfR b29 = true := by kernel_rfl
theorem wf30 : wfR b30 = true := by kernel_rfl
theorem wf31 : wfR b31 = true := by kernel_rfl
theorem wf32 : wfR b32 = true := by kernel_rfl
theorem wf33 : wfR b33 = true := by kernel_rfl
theorem wf34 : wfR b34 = true := by kernel_rfl
theorem wf35 : wfR b35 = true := by kernel_rfl
theorem wf36 : wfR b36 = true := by kernel_rfl
theorem wf37 : wfR b37 = true := by kernel_rfl
theorem wf38 : wfR b38 = true := by kernel_rfl
theorem wf39 : wfR b39 = true := by kernel_rfl
theorem wf40 : wfR b40 = true := by kernel_rfl
theorem wf41 : wfR b41 = true := by kernel_rfl
theorem wf42 : wfR b42 = true := by kernel_rfl
theorem wf43 : wfR b43 = true := by kernel_rfl
theorem wf44 : wfR b44 = true := by kernel_rfl
theorem wf45 : wfR b45 = true := by kernel_rfl
theorem wf46 : wfR b46 = true := by kernel_rfl
theorem wf47 : wfR b47 = true := by kernel_rfl
theorem wf48 : wfR b48 = true := by kernel_rfl
theorem wf49 : wfR b49 = true := by kernel_rfl
theorem wf50 : wfR b50 = true := by kernel_rfl
theorem wf51 : wfR b51 = true := by kernel_rfl
theorem wf52 : wfR b52 = true := by kernel_rfl
theorem wf53 : wfR b53 = true := by kernel_rfl
theorem wf54 : wfR b54 = true := by kernel_rfl
theorem wf55 : wfR b55 = true := by kernel_rfl
theorem wf56 : wfR b56 = true := by kernel_rfl
theorem wf57 : wfR b57 = true := by kernel_rfl
theorem wf58 : wfR b58 = true := by kernel_rfl
theorem wf59 : wfR b59 = true := by kernel_rfl
theorem wf60 : wfR b60 = true := by kernel_rfl
theorem wf61 : wfR b61 = true := by kernel_rfl
theorem wf62 : wfR b62 = true := by kernel_rfl
theorem wf63 : wfR b63 = true := by kernel_rfl
theorem wf64 : wfR b64 = true := by kernel_rfl
theorem wf65 : wfR b65 = true := by kernel_rfl
theorem wf66 : wfR b66 = true := by kernel_rfl
theorem wf67 : wfR b67 = true := by kernel_rfl
theorem wf68 : wfR b68 = true := by kernel_rfl
theorem wf69 : wfR b69 = true := by kernel_rfl
theorem wf70 : wfR b70 = true := by kernel_rfl
theorem wf71 : wfR b71 = true := by kernel_rfl
theorem wf72 : wfR b72 = true := by kernel_rfl
theorem wf73 : wfR b73 = true := by kernel_rfl
theorem wf74 : wfR b74 = true := by kernel_rfl
theorem wf75 : wfR b75 = true := by kernel_rfl
theorem wf76 : wfR b76 = true := by kernel_rfl
theorem wf77 : wfR b77 = true := by kernel_rfl
theorem wf78 : wfR b78 = true := by kernel_rfl
theorem wf79 : wfR b79 = true := by kernel_rfl
theorem wf80 : wfR b80 = true := by kernel_rfl
theorem wf81 : wfR b81 = true := by kernel_rfl
theorem wf82 : wfR b82 = true := by kernel_rfl
theorem wf83 : wfR b83 = true := by kernel_rfl
theorem wf84 : wfR b84 = true := by kernel_rfl
theorem wf85 : wfR b85 = true := by kernel_rfl
theorem wf86 : wfR b86 = true := by kernel_rfl
theorem wf87 : wfR b87 = true := by kernel_rfl
theorem wf88 : wfR b88 = true := by kernel_rfl
theorem wf89 : wfR b89 = true := by kernel_rfl
theorem wf90 : wfR b90 = true := by kernel_rfl
theorem wf91 : wfR b91 = true := by kernel_rfl
theorem wf92 : wfR b92 = true := by kernel_rfl
theorem wf93 : wfR b93 = true := by kernel_rfl
theorem wf94 : wfR b94 = true := by kernel_rfl
theorem wf95 : wfR b95 = true := by kernel_rfl
theorem wf96 : wfR b96 = true := by kernel_rfl
theorem wf97 : wfR b97 = true := by kernel_rfl
theorem wf98 : wfR b98 = true := by kernel_rfl
theorem wf99 : wfR b99 = true := by kernel_rfl
theorem wf100 : wfR b100 = true := by kernel_rfl
theorem wf101 : wfR b101 = true := by kernel_rfl
theorem wf102 : wfR b102 = true := by kernel_rfl
theorem wf103 : wfR b103 = true := by kernel_rfl
theorem wf104 : wfR b104 = true := by kernel_rfl
theorem wf105 : wfR b105 = true := by kernel_rfl
theorem wf106 : wfR b106 = true := by kernel_rfl
theorem wf107 : wfR b107 = true := by kernel_rfl
theorem wf108 : wfR b108 = true := by kernel_rfl
theorem wf109 : wfR b109 = true := by kernel_rfl
theorem wf110 : wfR b110 = true := by kernel_rfl
theorem wf111 : wfR b111 = true := by kernel_rfl
theorem wf112 : wfR b112 = true := by kernel_rfl
theorem wf113 : wfR b113 = true := by kernel_rfl
theorem wf114 : wfR b114 = true := by kernel_rfl
theorem wf115 : wfR b115 = true := by kernel_rfl
theorem wf116 : wfR b116 = true := by kernel_rfl
theorem wf117 : wfR b117 = true := by kernel_rfl
theorem wf118 : wfR b118 = true := by kernel_rfl
theorem wf119 : wfR b119 = true := by kernel_rfl
theorem wf120 : wfR b120 = true := by kernel_rfl
theorem wf121 : wfR b121 = true := by kernel_rfl
theorem wf141 : wfR b141 = true := by kernel_rfl
theorem T_ok : ∀ f rf, T f = some rf → tab f = some rf ∧ wfR rf.body = true := by
  intro f rf h
  unfold T at h
  split at h
  · cases h; exact ⟨tab2, wf2⟩
  · cases h; exact ⟨tab3, wf3⟩
  · cases h; exact ⟨tab4, wf4⟩
  · cases h; exact ⟨tab5, wf5⟩
  · cases h; exact ⟨tab6, wf6⟩
  · cases h; exact ⟨tab7, wf7⟩
  · cases h; exact ⟨tab8, wf8⟩
  · cases h; exact ⟨tab9, wf9⟩
  · cases h; exact ⟨tab10, wf10⟩
  · cases h; exact ⟨tab11, wf11⟩
  · cases h; exact ⟨tab12, wf12⟩
  · cases h; exact ⟨tab13, wf13⟩
  · cases h; exact ⟨tab14, wf14⟩
  · cases h; exact ⟨tab15, wf15⟩
  · cases h; exact ⟨tab16, wf16⟩
  · cases h; exact ⟨tab17, wf17⟩
  · cases h; exact ⟨tab18, wf18⟩
  · cases h; exact ⟨tab19, wf19⟩
  · cases h; exact ⟨tab20, wf20⟩
  · cases h; exact ⟨tab21, wf21⟩
  · cases h; exact ⟨tab22, wf22⟩
  · cases h; exact ⟨tab23, wf23⟩
  · cases h; exact ⟨tab24, wf24⟩
  · cases h; exact ⟨tab25, wf25⟩
  · cases h; exact ⟨tab26, wf26⟩
  · cases h; exact ⟨tab27, wf27⟩
  · cases h; exact ⟨tab28, wf28⟩
  · cases h; exact ⟨tab29, wf29⟩
  · cases h; exact ⟨tab30, wf30⟩
  · cases h; exact ⟨tab31, wf31⟩
  · cases h; exact ⟨tab32, wf32⟩
  · cases h; exact ⟨tab33, wf33⟩
  · cases h; exact ⟨tab34, wf34⟩
  · cases h; exact ⟨tab35, wf35⟩
  · cases h; exact ⟨tab36, wf36⟩
  · cases h; exact ⟨tab37, wf37⟩
  · cases h; exact ⟨tab38, wf38⟩
  · cases h; exact ⟨tab39, wf39⟩
  · cases h; exact ⟨tab40, wf40⟩
  · cases h; exact ⟨tab41, wf41⟩
  · cases h; exact ⟨tab42, wf42⟩
  · cases h; exact ⟨tab43, wf43⟩
  · cases h; exact ⟨tab44, wf44⟩
  · cases h; exact ⟨tab45, wf45⟩
  · cases h; exact ⟨tab46, wf46⟩
  · cases h; exact ⟨tab47, wf47⟩
  · cases h; exact ⟨tab48, wf48⟩
  · cases h; exact ⟨tab49, wf49⟩
  · cases h; exact ⟨tab50, wf50⟩
  · cases h; exact ⟨tab51, wf51⟩
  · cases h; exact ⟨tab52, wf52⟩
  · cases h; exact ⟨tab53, wf53⟩
  · cases h; exact ⟨tab54, wf54⟩
  · cases h; exact ⟨tab55, wf55⟩
  · cases h; exact ⟨tab56, wf56⟩
  · cases h; exact ⟨tab57, wf57⟩
  · cases h; exact ⟨tab58, wf58⟩
  · cases h; exact ⟨tab59, wf59⟩
  · cases h; exact ⟨tab60, wf60⟩
  · cases h; exact ⟨tab61, wf61⟩
  · cases h; exact ⟨tab62, wf62⟩
  · cases h; exact ⟨tab63, wf63⟩
  · cases h; exact ⟨tab64, wf64⟩
  · cases h; exact ⟨tab65, wf65⟩
  · cases h; exact ⟨tab66, wf66⟩
  · cases h; exact ⟨tab67, wf67⟩
  · cases h; exact ⟨tab68, wf68⟩
  · cases h; exact ⟨tab69, wf69⟩
  · cases h; exact ⟨tab70, wf70⟩
  · cases h; exact ⟨tab71, wf71⟩
  · cases h; exact ⟨tab72, wf72⟩
  · cases h; exact ⟨tab73, wf73⟩
  · cases h; exact ⟨tab74, wf74⟩
  · cases h; exact ⟨tab75, wf75⟩
  · cases h; exact ⟨tab76, wf76⟩
  · cases h; exact ⟨tab77, wf77⟩
  · cases h; exact ⟨tab78, wf78⟩
  · cases h; exact ⟨tab79, wf79⟩
  · cases h; exact ⟨tab80, wf80⟩
  · cases h; exact ⟨tab81, wf81⟩
  · cases h; exact ⟨tab82, wf82⟩
  · cases h; exact ⟨tab83, wf83⟩
  · cases h; exact ⟨tab84, wf84⟩
  · cases h; exact ⟨tab85, wf85⟩
  · cases h; exact ⟨tab86, wf86⟩
  · cases h; exact ⟨tab87, wf87⟩
  · cases h; exact ⟨tab88, wf88⟩
  · cases h; exact ⟨tab89, wf89⟩
  · cases h; exact ⟨tab90, wf90⟩
  · cases h; exact ⟨tab91, wf91⟩
  · cases h; exact ⟨tab92, wf92⟩
  · cases h; exact ⟨tab93, wf93⟩
  · cases h; exact ⟨tab94, wf94⟩
  · cases h; exact ⟨tab95, wf95⟩
  · cases h; exact ⟨tab96, wf96⟩
  · cases h; exact ⟨tab97, wf97⟩
  · cases h; exact ⟨tab98, wf98⟩
  · cases h; exact ⟨tab99, wf99⟩
  · cases h; exact ⟨tab100, wf100⟩
  · cases h; exact ⟨tab101, wf101⟩
  · cases h; exact ⟨tab102, wf102⟩
  · cases h; exact ⟨tab103, wf103⟩
  · cases h; exact ⟨tab104, wf104⟩
  · cases h; exact ⟨tab105, wf105⟩
  · cases h; exact ⟨tab106, wf106⟩
  · cases h; exact ⟨tab107, wf107⟩
  · cases h; exact ⟨tab108, wf108⟩
  · cases h; exact ⟨tab109, wf109⟩
  · cases h; exact ⟨tab110, wf110⟩
  · cases h; exact ⟨tab111, wf111⟩
  · cases h; exact ⟨tab112, wf112⟩
  · cases h; exact ⟨tab113, wf113⟩
  · cases h; exact ⟨tab114, wf114⟩
  · cases h; exact ⟨tab115, wf115⟩
  · cases h; exact ⟨tab116, wf116⟩
  · cases h; exact ⟨tab117, wf117⟩
  · cases h; exact ⟨tab118, wf118⟩
  · cases h; exact ⟨tab119, wf119⟩
  · cases h; exact ⟨tab120, wf120⟩
  · cases h; exact ⟨tab121, wf121⟩
  · cases h; exact ⟨tab141, wf141⟩
  · cases h
theorem T_tab : TabOK cfg T := fun f rf h => by
  obtain ⟨h1, h2⟩ := T_ok f rf h
  obtain ⟨fn, h3, h4⟩ := Option.bind_eq_some_iff.1 h1
  exact ⟨fn, h3, h4, h2⟩
theorem T_follows : cfg.P.follows .mixedOrders = true := by kernel_rfl
theorem T_sound (n : Nat) : OrcOK cfg (evF T n) := evF_sound T_tab (fun _ h => draw_ok T_follows h) n
theorem Rt.sound {f : FuncId} {args : List AV} {r : AV} (h : Rt T f args r) : Sound cfg f args r := by
  obtain ⟨n, h⟩ := h
  exact T_sound n f args r h
end Go.Proofs.YtnibcojenlijgaaGreatDoor.Ev
